/- Of a valid ledger and a sequence of costs, of which some are refused: what is left and what is spent together do not change, what is left is not negative, and what is spent increases by the costs that are not refused (up to 1000 costs). No conditions beyond the table's content, which is tied to the program's text. -/
import Derived.Test.YthjaifdlnponcaaDoorKeepsParts
import Derived.Test.YthjaifdlnponcaaDoorFrame
import Derived.OpenShut
import Derived.ShutString
import Derived.Test.YthjaifdlnponcaaDoorCards
import Derived.Test.YthjaifdlnponcaaDoorTie
import Derived.SevenTiedAt
namespace Go.Proofs.YthjaifdlnponcaaDoor.ledgerKeeps
open Go.ChangeShapes Go.WideShapes Go.ChangeAt Go.RowKit Go.Joins Go.BigFrame
set_option linter.unusedVariables false

/-- What holds at the head of each round. -/
def Inv (b bn : Nat) (l s ln sn q : Int) (w0 wr : World) : Prop := Run b bn l s ln sn w0 wr ∧ validB ln sn = true ∧ ln + sn = l + s ∧ sn = s + q

theorem inv_ok {b bn : Nat} {l s ln sn q c l2 s2 : Int} {w0 wr w' : World} (h : Inv b bn l s ln sn q w0 wr) (hS : (l2, s2, (0 : Int)) = spendF ln sn c) (hR : Run b bn l s l2 s2 w0 w') : Inv b bn l s l2 s2 (q + c) w0 w' := by
  obtain ⟨_, hv, h1, h2⟩ := h
  have hb := valid_bd hv
  unfold spendF at hS
  split at hS
  · split at hS
    · obtain ⟨rfl, rfl, _⟩ := hS
      exact ⟨hR, decide_eq_true (by omega), by omega, by omega⟩
    · simp at hS
  · simp at hS
theorem refused {ln sn c : Int} (hv : validB ln sn = true) (h : ¬ (0 ≤ c ∧ c ≤ ln)) : ∃ r : Int, (ln, sn, r) = spendF ln sn c ∧ r ≠ 0 := by
  unfold spendF
  by_cases h0 : 0 ≤ c
  · rw [if_pos ⟨hv, h0⟩, if_neg (fun k => h ⟨h0, k⟩)]
    exact ⟨15, rfl, by omega⟩
  · rw [if_neg (fun k => h0 k.2)]
    exact ⟨1, rfl, by omega⟩

theorem walk (l s : Int) (a1 : Option Addr) (len1 cap1 : Nat) (z1 : List Int) (w : World) (hL : Laid w) (w1 : IsRow .i64 w a1 len1 cap1 z1) :
    Calls Tryd.prog 4 #[.agg #[.int .i64 l, .int .i64 s], .slice a1 len1 cap1] w fun e w' => e = .returned (.bool true) ∧ Below w.heap.size w w' := by
  have hp := hL.1
  have K := Kept.new (l := l) (s := s) hL
  clear hL
  by_cases hv : validB l s = true
  · by_cases hn : 1000 < len1
    · have HV := Lib.hid hv.symm
      have hn' : (1000 : Int) < (len1 : Int) := by omega
      clear hv w1
      go_enter Tryd.func4, Tryd.ntmps4
      go_wp2_with fail
      (with_reducible refine (head_kept K).mono ?_)
      rintro e w2 ⟨rfl, K1⟩
      clear K
      have c0 := K1.c0
      have c1 := K1.c1
      have K1' := K1.alloc (.cells #[.int .i64 l, .int .i64 s] 23)
      go_wp2_with (go_at_call 16; (with_reducible refine (rvalid_any l s _ true HV.out).mono ?_); rintro e w3 ⟨rfl, rfl⟩)
      go_ret
      exact ⟨rfl, K1'.acc⟩
    · have HV := Lib.hid hv.symm
      have HV' := Lib.hid hv
      have hn' : ¬ (1000 : Int) < (len1 : Int) := by omega
      have W1 := Lib.hid w1
      clear hv w1
      go_enter Tryd.func4, Tryd.ntmps4
      go_wp2_with fail
      (with_reducible refine (head_kept K).mono ?_)
      rintro e w2 ⟨rfl, K1⟩
      clear K
      have c0 := K1.c0
      have c1 := K1.c1
      have lt0 := K1.lt
      have K1' := K1.alloc (.cells #[.int .i64 l, .int .i64 s] 23)
      have lt1 : w.heap.size < w2.heap.size + 1 := by omega
      go_wp2_with (go_at_call 16; (with_reducible refine (rvalid_any l s _ true HV.out).mono ?_); rintro e w3 ⟨rfl, rfl⟩)
      have R0 : Run w.heap.size (w2.heap.size + 1) l s l s w ((w2.alloc (.cells #[.int .i64 l, .int .i64 s] 23)).alloc (.cells #[.int .i64 l, .int .i64 s] 23)) :=
        ⟨K1'.alloc _, by simp, by simp, by simp, by simp, by simp, by omega, by omega⟩
      clear c0 c1 lt0 lt1 K1 K1'
      have hlen : len1 ≤ 1000 := by omega
      have hI0 := (⟨R0, HV'.out, rfl, by omega⟩ : Inv w.heap.size (w2.heap.size + 1) l s l s 0 w ((w2.alloc (.cells #[.int .i64 l, .int .i64 s] 23)).alloc (.cells #[.int .i64 l, .int .i64 s] 23)))
      have HL := Lib.hid hI0
      clear hI0 R0
      go_loopw [7, 25] (fun sp i wr => ∃ (k : Nat) (ln sn q : Int), k ≤ len1 ∧ i = .int .i64 k ∧ sp = .int .i64 q ∧ Inv w.heap.size (w2.heap.size + 1) l s ln sn q w wr) (fun _ i _ => len1 - (intOf i).toNat)
      case atStart => exact ⟨0, l, s, 0, by omega, rfl, rfl, HL.out⟩
      case round =>
        obtain ⟨k, ln, sn, q, hk, rfl, rfl, hI⟩ := hrel
        have HI := Lib.hid hI
        obtain ⟨R, hv, e1, e2⟩ := hI
        obtain ⟨b0, b1, b2, b3, b4⟩ := valid_bd hv
        obtain ⟨b5, b6, b7, b8, b9⟩ := valid_bd HV'.out
        have q0 : -1000000000 ≤ q := by omega
        have q1 : q ≤ 1000000000 := by omega
        have n0 := R.n0
        have n1 := R.n1
        have f0 := R.f0
        have f1 := R.f1
        have c0 := R.kept.c0
        have c1 := R.kept.c1
        have t0 := R.kept.lt
        have t1 := R.ltn
        by_cases hlt : k < len1
        · obtain ⟨bx, off, c, rfl, hcell⟩ : ∃ bx off c, a1 = some ⟨bx, off, none⟩ ∧ wr.cell? ⟨bx, off + k, none⟩ = some (.int .i64 c) := by
            rcases W1.out with ⟨_, h0, _⟩ | ⟨x, rfl, hlc, _, hz, hcx, _⟩
            · omega
            · obtain ⟨bx, off, rfl, hc⟩ := ints_at hcx (by omega)
              have h := hc k (by omega)
              exact ⟨bx, off, _, rfl, (R.kept.acc.cell (World.block_lt_of_cell? _ _ h)).trans h⟩
          by_cases hok : 0 ≤ c ∧ c ≤ ln
          · obtain ⟨g0, g1⟩ := hok
            obtain ⟨l2, hl2⟩ : ∃ x, x = ln - c := ⟨_, rfl⟩
            obtain ⟨s2, hs2⟩ : ∃ x, x = sn + c := ⟨_, rfl⟩
            have hS : (l2, s2, (0 : Int)) = spendF ln sn c := by rw [spendF, if_pos ⟨hv, g0⟩, if_pos g1, hl2, hs2]
            have HS := Lib.hid hS
            have d1 : ¬ l2 < 0 := by omega
            have d2 : (l2 + s2 != l + s) = false := by rw [bne_eq_false_iff_eq]; omega
            have d3 : (s2 != s + (q + c)) = false := by rw [bne_eq_false_iff_eq]; omega
            have d4 : -1000000000 ≤ l2 + s2 := by omega
            have d5 : l2 + s2 ≤ 1000000000 := by omega
            have d6 : s2 ≤ 1000000000 := by omega
            have d7 : l2 ≤ 1000000000 := by omega
            have d8 : 0 ≤ s2 := by omega
            clear hl2 hs2 hS hv e1 e2
            go_wp2_with fail
            (with_reducible refine (spend_is ln sn c l2 s2 0 _ HS.out).mono ?_)
            rintro e w3 ⟨rfl, hb⟩
            have R2 := R.below hb
            have R3 := R2.alloc (.cells #[.int .i64 l2, .int .i64 s2] 23)
            clear n0 n1 f0 f1 c0 c1 t0 t1 hcell hb R
            have n0 := R2.n0
            have n1 := R2.n1
            have f0 := R2.f0
            have f1 := R2.f1
            have c0 := R2.kept.c0
            have c1 := R2.kept.c1
            have t0 := R2.kept.lt
            have t1 := R2.ltn
            have ne0 := R2.ne
            have ne1 : w3.heap.size ≠ w2.heap.size + 1 := by omega
            go_wp2
            go_roundw
            case rel => exact ⟨k + 1, l2, s2, q + c, by omega, by go_num, rfl, inv_ok HI.out HS.out (((R2.set0 hp _).set1 hp _).alloc _)⟩
            case measure => simp [intOf]; omega
          · obtain ⟨r, hS0, hr⟩ := refused hv hok
            have r1 : (r == 0) = false := by simpa using hr
            have HS := Lib.hid hS0
            have d1 : ¬ ln < 0 := by omega
            have d2 : (ln + sn != l + s) = false := by rw [bne_eq_false_iff_eq]; omega
            have d3 : (sn != s + q) = false := by rw [bne_eq_false_iff_eq]; omega
            clear hr hS0 hv e1 e2 hok
            go_wp2_with fail
            (with_reducible refine (spend_is ln sn c ln sn r _ HS.out).mono ?_)
            rintro e w3 ⟨rfl, hb⟩
            have R2 := R.below hb
            have R3 := R2.alloc (.cells #[.int .i64 ln, .int .i64 sn] 23)
            clear n0 n1 f0 f1 c0 c1 t0 t1 hcell hb R
            have n0 := R2.n0
            have n1 := R2.n1
            have c0 := R2.kept.c0
            have c1 := R2.kept.c1
            have t0 := R2.kept.lt
            have t1 := R2.ltn
            go_wp2
            go_roundw
            case rel => exact ⟨k + 1, ln, sn, q, by omega, by go_num, rfl, R3, HI.out.2⟩
            case measure => simp [intOf]; omega
        · go_wp2
          go_ret
          exact ⟨rfl, R.kept.acc⟩
  · have hv : validB l s = false := by simpa using hv
    have HV := Lib.hid hv.symm
    clear hv w1
    go_enter Tryd.func4, Tryd.ntmps4
    go_wp2_with fail
    (with_reducible refine (head_kept K).mono ?_)
    rintro e w2 ⟨rfl, K1⟩
    clear K
    have c0 := K1.c0
    have c1 := K1.c1
    have K1' := K1.alloc (.cells #[.int .i64 l, .int .i64 s] 23)
    go_wp2_with (go_at_call 16; (with_reducible refine (rvalid_any l s _ false HV.out).mono ?_); rintro e w3 ⟨rfl, rfl⟩)
    go_ret
    exact ⟨rfl, K1'.acc⟩

theorem laidWorld_row (os : Os) : ((laidWorld os).forCall (fun _ _ => 0) ⟨#[], #[.agg #[.int .i64 0, .int .i64 0], .slice none 0 0], []⟩).memory.heap[0]? = some (.cells costCells 38 (0, 0)) := by kernel_rfl

set_option maxRecDepth 100000 in
theorem lifted (os : Os) (started : os.Started) (H : Type) (enc : TypeId × Value → H) :
    ReturnsInHanded {} Tryd.checked os 4 .any (fun w args => (Rows.ledgerKeepsSpec.pre enc Tryd.prog Tryd.f4 [] false w args ∧ laidMet Tryd.prog [("slotmesh/ledger.costs", Rows.laid_slotmesh_ledger_costs)] w) ∧ sizedMet enc Tryd.prog Tryd.f4 (OpenSpec.ofChange Rows.ledgerKeepsSpec) false w args)
      (Rows.ledgerKeepsSpec.post enc Tryd.prog Tryd.f4 false true false false) := by
  refine returnsInHanded_of_change_and (C := Tryd.checked) (X := fun w _ => laidMet Tryd.prog [("slotmesh/ledger.costs", Rows.laid_slotmesh_ledger_costs)] w) (fun _ _ _ hh h => h.of_heap hh) own started (by kernel_rfl) Tryd.func4
    (ChangeSpec.witness_at (enc := enc) (C := Tryd.checked) (os := os) (X := fun w _ => laidMet Tryd.prog [("slotmesh/ledger.costs", Rows.laid_slotmesh_ledger_costs)] w) false (laidWorld os) #[.agg #[.int .i64 0, .int .i64 0], .slice none 0 0] 8 rfl (by kernel_rfl) (by kernel_rfl) (by kernel_rfl) (by kernel_rfl) (by kernel_rfl)
      ⟨_, ⟨0, 38, costCells, 8, [], [], by kernel_rfl, by kernel_rfl, by kernel_rfl, by kernel_rfl, rfl, rfl⟩, by decide, fun b off h => by
        have h' : MemPlace.cell b off ∈ [MemPlace.cell 0 0, .cell 0 1, .cell 0 2] := h
        have hb : b = 0 := by
          simp at h'
          omega
        subst hb
        refine ⟨⟨_, _, laidWorld_row os⟩, fun u v hc => ?_⟩
        simp only [World.cell?, laidWorld_row os] at hc
        simp at h'
        rcases h' with rfl | rfl | rfl <;> simp [costCells] at hc⟩) ?_
  intro W base args ds gs before hval0 hW _ _ hL _
  have hval : ∀ (j : Nat) t v, Tryd.f4.params[j]? = some t → args[j]? = some v → Value.okWide Tryd.prog W .any base t v := hval0
  have hW' := hW
  obtain ⟨p, q, hA0, hV, rfl, hfz, hnd⟩ := hW
  have hA : DataW.TrodAll enc Tryd.prog W 0 (fun _ => true) true Tryd.f4.params.toList args.toList ds p := hA0
  rw [Tryd.params4] at hA hval
  obtain ⟨v0, vs0, d0, ds0, p0, q0, hargs, rfl, rfl, h0, r0⟩ := trodAll_cons hA
  obtain ⟨v1, vs1, d1, ds1, p1, q1, rfl, rfl, rfl, h1, r1⟩ := trodAll_cons r0
  obtain ⟨rfl, rfl, rfl⟩ := trodAll_nil r1
  obtain rfl : args = #[v0, v1] := by cases args; simp_all
  obtain ⟨rfl, rfl⟩ := trodVars_none hV
  have k0 := h0
  have lt0 : ∀ x ∈ p0, x.block < W.heap.size := by obtain ⟨m, hm⟩ := k0; exact DataW.trod_lt m _ _ _ hm
  obtain ⟨cl0, cs0, yl0, ys0, m0, rfl, rfl, rfl, hyl0, hys0⟩ := open_agg2 Tryd.underlying23 (by kernel_rfl) cells23 (hval 0 23 v0 rfl rfl) h0
  obtain ⟨l, el0, rfl, wl⟩ := DataW.trod_int Tryd.underlying3 hyl0
  obtain ⟨s, es0, rfl, ws⟩ := DataW.trod_int Tryd.underlying3 hys0
  simp at el0 es0
  subst el0 es0
  obtain ⟨a1, len1, cap1, rfl⟩ := okWide_slice Tryd.underlying31 (hval 1 31 v1 rfl rfl)
  have k1 := h1
  have lt1 : ∀ x ∈ p1, x.block < W.heap.size := by obtain ⟨m, hm⟩ := k1; exact DataW.trod_lt m _ _ _ hm
  obtain ⟨z1, w1⟩ : ∃ zs, IsRow .i64 W a1 len1 cap1 zs := by
    obtain ⟨fuel, hf⟩ := h1
    rcases open_ints Tryd.underlying31 Tryd.underlying3 (by kernel_rfl) hf with ⟨hcs, _⟩ | ⟨x, l, c, zs, hcs, _, hl, hm, hz, _, hcell, hwz⟩
    · simp [Value.cells] at hcs
      obtain ⟨rfl, rfl, rfl⟩ := hcs
      exact ⟨[], .inl ⟨rfl, rfl, rfl, rfl⟩⟩
    · simp [Value.cells] at hcs
      obtain ⟨rfl, rfl, rfl⟩ := hcs
      exact ⟨zs, .inr ⟨_, rfl, hl, hm, by simpa using hz, hcell, hwz⟩⟩
  clear hA0 hval0
  refine (walk l s a1 len1 cap1 z1 W (laid_of hL) w1).mono fun e W' ⟨he, hg⟩ => ?_
  subst he
  exact ⟨_, rfl, _, _, _, [], _, [], hW', trodAll_mk1 (shut_bool Tryd.underlying4 _), (trodAll_cons_mk (Below.trod laidOut (by kernel_rfl) (of_decide_eq_true (by kernel_rfl)) k0 hg lt0) (trodAll_cons_mk (Below.trod laidOut (by kernel_rfl) (of_decide_eq_true (by kernel_rfl)) k1 hg lt1) trodAll_mk0)), rfl, hg.frame _, fun h => by cases h⟩

theorem over : Rows.ledgerKeepsRow.holds Tryd.pinned (OpenSpec.ofChange Rows.ledgerKeepsSpec) :=
  OpenClaim.holds_of_wide 4 Tryd.f4 rfl rfl rfl rfl rfl rfl rfl ⟨rfl, rfl, rfl, rfl, rfl⟩ rfl rfl rfl rfl rfl (by kernel_rfl) Tryd.func4 (by kernel_rfl)
    (of_decide_eq_true (by kernel_rfl)) (by unfold Func.isWrapper; rw [if_neg (of_decide_eq_false (by kernel_rfl))]; exact ⟨rfl, rfl⟩)
    (fun os started H enc _ => lifted os started H enc)

theorem proved : Rows.LedgerKeepsCardSaid :=
  Claim7.holds_tied_plain_at .later [] [.data] true (true, "04b04d59300e609cfa0da7a4310f26ef7014fdb096320e0925c723bf9f6d8783") false
    over (fun _ h => by cases h) (by kernel_rfl) (fun _ h => by cases h) ledgerKeeps_row_tie rfl ⟨rfl, rfl⟩ (by kernel_rfl) rfl
    (fun f fn hf hfn => by
      obtain rfl : f = 4 := Option.some.inj ((show Tryd.prog.funcNamed "slotmesh/slotmeshlaw18.LedgerKeeps" = some 4 by kernel_rfl).symm.trans hf) |>.symm
      obtain rfl : fn = Tryd.f4 := (Option.some.inj (Tryd.func4.symm.trans hfn)).symm
      exact ⟨by kernel_rfl, fun j t ht => by
        rw [Tryd.params4] at ht
        have h3 : t = 23 ∨ t = 31 := by
          rcases j with _ | j
          · have e : t = 23 := by simpa using ht.symm
            subst e; simp
          · rcases j with _ | j
            · have e : t = 31 := by simpa using ht.symm
              subst e; simp
            · simp at ht
        rcases h3 with rfl | rfl
        · exact (show Tryd.prog.wantsStandIn 23 = false by kernel_rfl)
        · exact (show Tryd.prog.wantsStandIn 31 = false by kernel_rfl)⟩)
    (by kernel_rfl)
#print axioms proved
end Go.Proofs.YthjaifdlnponcaaDoor.ledgerKeeps
