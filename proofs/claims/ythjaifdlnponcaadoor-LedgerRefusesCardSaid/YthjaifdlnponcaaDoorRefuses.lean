/- Of any ledger and cost: a spending that is refused changes nothing; of a valid ledger a cost is refused if and only if it is negative or greater than what is left. No conditions beyond the table's content, which is tied to the program's text. -/
import Derived.Test.YthjaifdlnponcaaDoorFrame
import Derived.OpenShut
import Derived.ShutString
import Derived.Test.YthjaifdlnponcaaDoorCards
import Derived.Test.YthjaifdlnponcaaDoorTie
import Derived.SevenTiedAt
namespace Go.Proofs.YthjaifdlnponcaaDoor.ledgerRefuses
open Go.ChangeShapes Go.WideShapes Go.ChangeAt Go.RowKit Go.Joins Go.BigFrame
set_option linter.unusedVariables false



theorem walk (l s : Int) (a1 : Int) (w1 : (Lit.int .i64 a1).wf = true) (w : World) (hL : Laid w) :
    Calls Tryd.prog 7 #[.agg #[.int .i64 l, .int .i64 s], .int .i64 a1] w fun e w' => e = .returned (.bool true) ∧ Below w.heap.size w w' := by
  have K := Kept.new (l := l) (s := s) hL
  clear hL
  by_cases hv : validB l s = true
  · have HV := Lib.hid hv.symm
    obtain ⟨b0, b1, b2, b3, b4⟩ := valid_bd hv
    by_cases hc : a1 < 0
    · have HS := Lib.hid (show (l, s, (1 : Int)) = spendF l s a1 by rw [spendF, if_neg (by omega)])
      clear hv
      go_enter Tryd.func7, Tryd.ntmps7
      go_wp2_with fail
      (with_reducible refine (head_kept K).mono ?_)
      rintro e w1 ⟨rfl, K1⟩
      clear K
      have c0 := K1.c0
      have c1 := K1.c1
      go_wp2_with fail
      (with_reducible refine (spend_kept a1 l s 1 l s K1 HS.out).mono ?_)
      rintro e w2 ⟨rfl, K2⟩
      clear c0 c1 K1
      have c0 := K2.c0
      have c1 := K2.c1
      have lt0 := K2.lt
      have lt1 : w.heap.size < w2.heap.size + 1 := by omega
      have lt2 : w.heap.size < w2.heap.size + 1 + 1 := by omega
      have K3 := K2.alloc (.cells #[.int .i64 l, .int .i64 s] 23)
      go_wp2_with fail
      (with_reducible refine (rvalid_any l s _ true HV.out).mono ?_)
      rintro e w3 ⟨rfl, rfl⟩
      go_wp2_with (go_at_call 16; (with_reducible refine (rvalid_any l s _ true HV.out).mono ?_); rintro e w3 ⟨rfl, rfl⟩)
      go_ret
      exact ⟨rfl, (K3.alloc _).acc.alloc (by have := K2.acc.size; simp; omega) _⟩
    · by_cases hl : a1 ≤ l
      · have HS := Lib.hid (show (l - a1, s + a1, (0 : Int)) = spendF l s a1 by rw [spendF, if_pos ⟨hv, by omega⟩, if_pos hl])
        have h1 : decide (a1 < 0) = false := decide_eq_false hc
        have h2 : decide (l < a1) = false := decide_eq_false (by omega)
        clear hv
        go_enter Tryd.func7, Tryd.ntmps7
        go_wp2_with fail
        (with_reducible refine (head_kept K).mono ?_)
        rintro e w1 ⟨rfl, K1⟩
        clear K
        have c0 := K1.c0
        have c1 := K1.c1
        go_wp2_with fail
        (with_reducible refine (spend_kept a1 (l - a1) (s + a1) 0 l s K1 HS.out).mono ?_)
        rintro e w2 ⟨rfl, K2⟩
        clear c0 c1 K1
        have c0 := K2.c0
        have c1 := K2.c1
        have lt0 := K2.lt
        have lt1 : w.heap.size < w2.heap.size + 1 := by omega
        have lt2 : w.heap.size < w2.heap.size + 1 + 1 := by omega
        have K3 := K2.alloc (.cells #[.int .i64 (l - a1), .int .i64 (s + a1)] 23)
        go_wp2_with fail
        (with_reducible refine (rvalid_any l s _ true HV.out).mono ?_)
        rintro e w3 ⟨rfl, rfl⟩
        go_wp2_with (go_at_call 16; (with_reducible refine (rvalid_any l s _ true HV.out).mono ?_); rintro e w3 ⟨rfl, rfl⟩)
        go_ret
        exact ⟨rfl, ((K3.alloc _).alloc _).acc⟩
      · have HS := Lib.hid (show (l, s, (15 : Int)) = spendF l s a1 by rw [spendF, if_pos ⟨hv, by omega⟩, if_neg hl])
        have h1 : decide (a1 < 0) = false := decide_eq_false hc
        have h2 : decide (l < a1) = true := decide_eq_true (by omega)
        clear hv
        go_enter Tryd.func7, Tryd.ntmps7
        go_wp2_with fail
        (with_reducible refine (head_kept K).mono ?_)
        rintro e w1 ⟨rfl, K1⟩
        clear K
        have c0 := K1.c0
        have c1 := K1.c1
        go_wp2_with fail
        (with_reducible refine (spend_kept a1 l s 15 l s K1 HS.out).mono ?_)
        rintro e w2 ⟨rfl, K2⟩
        clear c0 c1 K1
        have c0 := K2.c0
        have c1 := K2.c1
        have lt0 := K2.lt
        have lt1 : w.heap.size < w2.heap.size + 1 := by omega
        have lt2 : w.heap.size < w2.heap.size + 1 + 1 := by omega
        have K3 := K2.alloc (.cells #[.int .i64 l, .int .i64 s] 23)
        go_wp2_with fail
        (with_reducible refine (rvalid_any l s _ true HV.out).mono ?_)
        rintro e w3 ⟨rfl, rfl⟩
        go_wp2_with (go_at_call 16; (with_reducible refine (rvalid_any l s _ true HV.out).mono ?_); rintro e w3 ⟨rfl, rfl⟩)
        go_ret
        exact ⟨rfl, ((K3.alloc _).alloc _).acc⟩
  · have hv : validB l s = false := by simpa using hv
    have HV := Lib.hid hv.symm
    have HS := Lib.hid (show (l, s, (1 : Int)) = spendF l s a1 by rw [spendF, if_neg (by rw [hv]; simp)])
    clear hv
    go_enter Tryd.func7, Tryd.ntmps7
    go_wp2_with fail
    (with_reducible refine (head_kept K).mono ?_)
    rintro e w1 ⟨rfl, K1⟩
    clear K
    have c0 := K1.c0
    have c1 := K1.c1
    go_wp2_with fail
    (with_reducible refine (spend_kept a1 l s 1 l s K1 HS.out).mono ?_)
    rintro e w2 ⟨rfl, K2⟩
    clear c0 c1 K1
    have c0 := K2.c0
    have c1 := K2.c1
    have lt0 := K2.lt
    have lt1 : w.heap.size < w2.heap.size + 1 := by omega
    have lt2 : w.heap.size < w2.heap.size + 1 + 1 := by omega
    have K3 := K2.alloc (.cells #[.int .i64 l, .int .i64 s] 23)
    go_wp2_with fail
    (with_reducible refine (rvalid_any l s _ false HV.out).mono ?_)
    rintro e w3 ⟨rfl, rfl⟩
    go_wp2_with (go_at_call 16; (with_reducible refine (rvalid_any l s _ false HV.out).mono ?_); rintro e w3 ⟨rfl, rfl⟩)
    go_ret
    exact ⟨rfl, (K3.alloc _).acc⟩

theorem laidWorld_row (os : Os) : ((laidWorld os).forCall (fun _ _ => 0) ⟨#[], #[.agg #[.int .i64 0, .int .i64 0], .int .i64 0], []⟩).memory.heap[0]? = some (.cells costCells 38 (0, 0)) := by kernel_rfl

set_option maxRecDepth 100000 in
theorem lifted (os : Os) (started : os.Started) (H : Type) (enc : TypeId × Value → H) :
    ReturnsInHanded {} Tryd.checked os 7 .any (fun w args => (Rows.ledgerRefusesSpec.pre enc Tryd.prog Tryd.f7 [] false w args ∧ laidMet Tryd.prog [("slotmesh/ledger.costs", Rows.laid_slotmesh_ledger_costs)] w) ∧ sizedMet enc Tryd.prog Tryd.f7 (OpenSpec.ofChange Rows.ledgerRefusesSpec) false w args)
      (Rows.ledgerRefusesSpec.post enc Tryd.prog Tryd.f7 false true false false) := by
  refine returnsInHanded_of_change_and (C := Tryd.checked) (X := fun w _ => laidMet Tryd.prog [("slotmesh/ledger.costs", Rows.laid_slotmesh_ledger_costs)] w) (fun _ _ _ hh h => h.of_heap hh) own started (by kernel_rfl) Tryd.func7
    (ChangeSpec.witness_at (enc := enc) (C := Tryd.checked) (os := os) (X := fun w _ => laidMet Tryd.prog [("slotmesh/ledger.costs", Rows.laid_slotmesh_ledger_costs)] w) false (laidWorld os) #[.agg #[.int .i64 0, .int .i64 0], .int .i64 0] 8 rfl (by kernel_rfl) (by kernel_rfl) (by kernel_rfl) (by kernel_rfl) (by kernel_rfl)
      ⟨_, ⟨0, 38, costCells, 8, [], [], by kernel_rfl, by kernel_rfl, by kernel_rfl, by kernel_rfl, rfl, rfl⟩, by decide, fun b off h => by
        have h' : MemPlace.cell b off ∈ [MemPlace.cell 0 0, .cell 0 1, .cell 0 2] := h
        have hb : b = 0 := by
          simp at h'
          omega
        subst hb
        refine ⟨⟨_, _, laidWorld_row os⟩, fun u v hc => ?_⟩
        simp only [World.cell?, laidWorld_row os] at hc
        simp at h'
        rcases h' with rfl | rfl | rfl <;> simp [costCells] at hc⟩) ?_
  intro W base args ds gs before hval0 hW _ _ hL _
  have hval : ∀ (j : Nat) t v, Tryd.f7.params[j]? = some t → args[j]? = some v → Value.okWide Tryd.prog W .any base t v := hval0
  have hW' := hW
  obtain ⟨p, q, hA0, hV, rfl, hfz, hnd⟩ := hW
  have hA : DataW.TrodAll enc Tryd.prog W 0 (fun _ => true) true Tryd.f7.params.toList args.toList ds p := hA0
  rw [Tryd.params7] at hA hval
  obtain ⟨v0, vs0, d0, ds0, p0, q0, hargs, rfl, rfl, h0, r0⟩ := trodAll_cons hA
  obtain ⟨v1, vs1, d1, ds1, p1, q1, rfl, rfl, rfl, h1, r1⟩ := trodAll_cons r0
  obtain ⟨rfl, rfl, rfl⟩ := trodAll_nil r1
  obtain rfl : args = #[v0, v1] := by cases args; simp_all
  obtain ⟨rfl, rfl⟩ := trodVars_none hV
  obtain ⟨cl0, cs0, yl0, ys0, m0, rfl, rfl, rfl, hyl0, hys0⟩ := open_agg2 Tryd.underlying23 (by kernel_rfl) cells23 (hval 0 23 v0 rfl rfl) h0
  obtain ⟨l, el0, rfl, wl⟩ := DataW.trod_int Tryd.underlying3 hyl0
  obtain ⟨s, es0, rfl, ws⟩ := DataW.trod_int Tryd.underlying3 hys0
  simp at el0 es0
  subst el0 es0
  obtain ⟨a1, rfl, rfl, rfl, w1⟩ := open_int Tryd.underlying3 (hval 1 3 v1 rfl rfl) h1
  clear hA0 hval0
  simp only [List.append_nil] at hW'
  refine (walk l s a1 w1 W (laid_of hL)).mono fun e W' ⟨he, hg⟩ => ?_
  subst he
  exact ⟨_, rfl, post_of_below (pa := []) (pv := []) hW' (fun _ _ _ => (trodAll_cons_mk (shut_bool Tryd.underlying4 _) trodAll_mk0)) (fun sp _ => (trodAll_cons_mk (shut_agg2 (y0 := (.lit (.int .i64 l), [])) (y1 := (.lit (.int .i64 s), [])) Tryd.underlying23 (by kernel_rfl) cells23 ⟨1, by simp [DataW.trod, Tryd.underlying3, wl]⟩ ⟨1, by simp [DataW.trod, Tryd.underlying3, ws]⟩) (trodAll_cons_mk (shut_int Tryd.underlying3 w1) trodAll_mk0))) (fun _ _ => rfl) rfl
    hg (ok_one (by kernel_rfl) rfl (okWide_bool_mk Tryd.underlying4 _))⟩

theorem over : Rows.ledgerRefusesRow.holds Tryd.pinned (OpenSpec.ofChange Rows.ledgerRefusesSpec) :=
  OpenClaim.holds_of_wide 7 Tryd.f7 rfl rfl rfl rfl rfl rfl rfl ⟨rfl, rfl, rfl, rfl, rfl⟩ rfl rfl rfl rfl rfl (by kernel_rfl) Tryd.func7 (by kernel_rfl)
    (of_decide_eq_true (by kernel_rfl)) (by unfold Func.isWrapper; rw [if_neg (of_decide_eq_false (by kernel_rfl))]; exact ⟨rfl, rfl⟩)
    (fun os started H enc _ => lifted os started H enc)

theorem proved : Rows.LedgerRefusesCardSaid :=
  Claim7.holds_tied_plain_at .later [] [.data] true (true, "04b04d59300e609cfa0da7a4310f26ef7014fdb096320e0925c723bf9f6d8783") false
    over (fun _ h => by cases h) (by kernel_rfl) (fun _ h => by cases h) ledgerRefuses_row_tie rfl ⟨rfl, rfl⟩ (by kernel_rfl) rfl
    (fun f fn hf hfn => by
      obtain rfl : f = 7 := Option.some.inj ((show Tryd.prog.funcNamed "slotmesh/slotmeshlaw18.LedgerRefuses" = some 7 by kernel_rfl).symm.trans hf) |>.symm
      obtain rfl : fn = Tryd.f7 := (Option.some.inj (Tryd.func7.symm.trans hfn)).symm
      exact ⟨by kernel_rfl, fun j t ht => by
        rw [Tryd.params7] at ht
        have h3 : t = 3 ∨ t = 23 := by
          rcases j with _ | j
          · have e : t = 23 := by simpa using ht.symm
            subst e; simp
          · rcases j with _ | j
            · have e : t = 3 := by simpa using ht.symm
              subst e; simp
            · simp at ht
        rcases h3 with rfl | rfl
        · exact (show Tryd.prog.wantsStandIn 3 = false by kernel_rfl)
        · exact (show Tryd.prog.wantsStandIn 23 = false by kernel_rfl)⟩)
    (by kernel_rfl)
#print axioms proved
end Go.Proofs.YthjaifdlnponcaaDoor.ledgerRefuses
