/- Of any valid ledger and kind of slots: it can pay for as many slots as Lasts says, one after the other, and not for one more (up to 2000 slots). No conditions beyond the table's content, which is tied to the program's text. -/
import Derived.Test.YthjaifdlnponcaaDoorKeepsParts
import Derived.Deep.RegionHeld3
import Derived.Test.YthjaifdlnponcaaDoorFrame
import Derived.OpenShut
import Derived.ShutString
import Derived.Test.YthjaifdlnponcaaDoorCards
import Derived.Test.YthjaifdlnponcaaDoorTie
import Derived.SevenTiedAt
namespace Go.Proofs.YthjaifdlnponcaaDoor.ledgerLasts
open Go.ChangeShapes Go.WideShapes Go.ChangeAt Go.RowKit Go.Joins Go.BigFrame
set_option linter.unusedVariables false

/-- A ledger in a block of the call's own that may be written. -/
structure Held (b : Nat) (l s : Int) (w0 W : World) : Prop where
  kept : Kept b l s w0 W
  f0 : W.frozen? ⟨b, 0, none⟩ = false
  f1 : W.frozen? ⟨b, 1, none⟩ = false
  old : w0.heap.size ≤ b

theorem Held.below {b : Nat} {l s : Int} {w0 W W' : World} (h : Held b l s w0 W) (hb : Below W.heap.size W W') : Held b l s w0 W' :=
  ⟨h.kept.below hb, (hb.frozen h.kept.lt).trans h.f0, (hb.frozen h.kept.lt).trans h.f1, h.old⟩

theorem Held.alloc {b : Nat} {l s : Int} {w0 W : World} (h : Held b l s w0 W) (o : Obj) : Held b l s w0 (W.alloc o) := h.below ((Below.refl _ _).alloc (Nat.le_refl _) _)

theorem Held.drew {b : Nat} {l s : Int} {w0 W : World} (h : Held b l s w0 W) : Held b l s w0 W.drew := ⟨h.kept.drew, h.f0, h.f1, h.old⟩

theorem Held.set0 {b : Nat} {l s : Int} {w0 W : World} (h : Held b l s w0 W) (hp : 0 < w0.heap.size) (x : Int) : Held b x s w0 (W.setCell ⟨b, 0, none⟩ (.int .i64 x)) :=
  have hold := h.old
  ⟨⟨World.cell?_setCell_same _ _ _ h.kept.c0, (World.cell?_setCell_other _ _ _ _ (by simp)).trans h.kept.c1, by simpa [World.setCell] using h.kept.lt, laid_setCell h.kept.laid (by omega) _, h.kept.acc.setCell hold _⟩,
    (World.frozen?_setCell _ _ _ _).trans h.f0, (World.frozen?_setCell _ _ _ _).trans h.f1, hold⟩

theorem Held.set1 {b : Nat} {l s : Int} {w0 W : World} (h : Held b l s w0 W) (hp : 0 < w0.heap.size) (x : Int) : Held b l x w0 (W.setCell ⟨b, 1, none⟩ (.int .i64 x)) :=
  have hold := h.old
  ⟨⟨(World.cell?_setCell_other _ _ _ _ (by simp)).trans h.kept.c0, World.cell?_setCell_same _ _ _ h.kept.c1, by simpa [World.setCell] using h.kept.lt, laid_setCell h.kept.laid (by omega) _, h.kept.acc.setCell hold _⟩,
    (World.frozen?_setCell _ _ _ _).trans h.f0, (World.frozen?_setCell _ _ _ _).trans h.f1, hold⟩

theorem Held.set01 {b : Nat} {l s : Int} {w0 W : World} (h : Held b l s w0 W) (hp : 0 < w0.heap.size) (x y : Int) : Held b x y w0 ((W.setCell ⟨b, 0, none⟩ (.int .i64 x)).setCell ⟨b, 1, none⟩ (.int .i64 y)) :=
  (h.set0 hp x).set1 hp y

theorem Held.far {b : Nat} {l s : Int} {w0 W : World} (h : Held b l s w0 W) {p : Addr} (hne : b < p.block) (hp : 0 < w0.heap.size) (ho : w0.heap.size ≤ p.block) (u : Value) : Held b l s w0 (W.setCell p u) := by
  have hold := h.old
  have far : ∀ (c i : Nat), c ≠ p.block → (W.setCell p u).cell? ⟨c, i, none⟩ = W.cell? ⟨c, i, none⟩ := fun c i hc => World.cell?_setCell_far _ _ _ _ (fun e => hc e.symm)
  exact ⟨⟨(far _ _ (by omega)).trans h.kept.c0, (far _ _ (by omega)).trans h.kept.c1, by simpa [World.setCell] using h.kept.lt,
    ⟨by simpa [World.setCell] using h.kept.laid.1, (far _ _ (by omega)).trans h.kept.laid.2.1, (far _ _ (by omega)).trans h.kept.laid.2.2.1, (far _ _ (by omega)).trans h.kept.laid.2.2.2⟩, h.kept.acc.setCell ho _⟩,
    (World.frozen?_setCell _ _ _ _).trans h.f0, (World.frozen?_setCell _ _ _ _).trans h.f1, hold⟩

theorem cost_held (n r : Int) {b : Nat} {l s : Int} {w0 W : World} (hK : Held b l s w0 W) (h : r = costF n) :
    Calls Tryd.prog 12 #[.int .i64 n] W fun e w' => e = .returned (.int .i64 r) ∧ W = w' := cost_is n r W hK.kept.laid h

theorem spend_held (c l2 s2 r : Int) {b : Nat} {l s : Int} {w0 W : World} (hK : Held b l s w0 W) (h : (l2, s2, r) = spendF l s c) :
    Calls Tryd.prog 10 #[.agg #[.int .i64 l, .int .i64 s], .int .i64 c] W fun e w' => e = .returned (.tuple #[.agg #[.int .i64 l2, .int .i64 s2], .int .i64 r]) ∧ Held b l s w0 w' ∧ Below W.heap.size W w' :=
  (spend_is l s c l2 s2 r W h).mono fun _ _ hh => ⟨hh.1, hK.below hh.2, hh.2⟩

/-- What holds at the head of round k. -/
def LInv (c : Int) (b : Nat) (k : Nat) (lk sk l : Int) (w0 wr : World) : Prop := Held b lk sk w0 wr ∧ validB lk sk = true ∧ lk = l - (k : Int) * c

theorem linv_pay {c l n lk sk : Int} {b k : Nat} {w0 wr : World} (h : LInv c b k lk sk l w0 wr) (hc : 1 ≤ c) (hl : 0 ≤ l) (hn : n = l / c) (hk : (k : Int) < n) :
    (lk - c, sk + c, (0 : Int)) = spendF lk sk c ∧ ∀ w', Held b (lk - c) (sk + c) w0 w' → LInv c b (k + 1) (lk - c) (sk + c) l w0 w' := by
  obtain ⟨_, hv, e⟩ := h
  obtain ⟨b0, b1, b2, b3, b4⟩ := valid_bd hv
  have h1 : ((k : Int) + 1) * c ≤ n * c := Int.mul_le_mul_of_nonneg_right (by omega) (by omega)
  have h2 : n * c ≤ l := by rw [hn]; exact Int.ediv_mul_le l (by omega)
  have h3 : ((k : Int) + 1) * c = (k : Int) * c + c := by rw [Int.add_mul, Int.one_mul]
  have h4 : c ≤ lk := by omega
  refine ⟨by rw [spendF, if_pos ⟨hv, by omega⟩, if_pos h4], fun w' hw => ⟨hw, decide_eq_true (by omega), ?_⟩⟩
  have h5 : ((k + 1 : Nat) : Int) * c = (k : Int) * c + c := by rw [← h3]; rfl
  omega

theorem linv_end {c l n lk sk : Int} {b k : Nat} {w0 wr : World} (h : LInv c b k lk sk l w0 wr) (hc : 1 ≤ c) (hn : n = l / c) (hk : (k : Int) = n) : (lk, sk, (15 : Int)) = spendF lk sk c := by
  obtain ⟨_, hv, e⟩ := h
  have h2 : l < (n + 1) * c := by rw [hn]; exact Int.lt_ediv_add_one_mul_self l (by omega)
  have h3 : (n + 1) * c = n * c + c := by rw [Int.add_mul, Int.one_mul]
  rw [hk] at e
  rw [spendF, if_pos ⟨hv, by omega⟩, if_neg (by omega)]

theorem walk (l s : Int) (a1 : Int) (w1 : (Lit.int .u8 a1).wf = true) (w : World) (hL : Laid w) :
    Calls Tryd.prog 5 #[.agg #[.int .i64 l, .int .i64 s], .int .u8 a1] w fun e w' => e = .returned (.bool true) ∧ Below w.heap.size w w' := by
  have K := Kept.new (l := l) (s := s) hL
  have hp := hL.1
  clear hL
  have g0 : 0 ≤ a1 := by simp only [Lit.wf, Bool.and_eq_true, decide_eq_true_eq] at w1; exact w1.1
  have g1 : a1 ≤ 255 := by simp only [Lit.wf, Bool.and_eq_true, decide_eq_true_eq] at w1; exact w1.2
  clear w1
  obtain ⟨n, hn⟩ : ∃ n, n = lastsF l s (a1 % 3) := ⟨_, rfl⟩
  by_cases hv : validB l s = true
  · have HV := Lib.hid hv.symm
    have HN := Lib.hid hn
    obtain ⟨b0, b1, b2, b3, b4⟩ := valid_bd hv
    by_cases h2 : 2000 < n
    · clear hn hv
      go_enter Tryd.func5, Tryd.ntmps5
      go_wp2_with fail
      (with_reducible refine (head_kept K).mono ?_)
      rintro e w2 ⟨rfl, K1⟩
      clear K
      have c0 := K1.c0
      have c1 := K1.c1
      go_wp2_with fail
      (with_reducible refine (lasts_kept (a1 % 3) n l s K1 HN.out).mono ?_)
      rintro e w3 ⟨rfl, K2⟩
      clear c0 c1 K1
      have c0 := K2.c0
      have c1 := K2.c1
      go_wp2_with (go_at_call 16; (with_reducible refine (rvalid_any l s _ true HV.out).mono ?_); rintro e w3 ⟨rfl, rfl⟩)
      go_ret
      exact ⟨rfl, (K2.alloc _).acc⟩
    · obtain ⟨c, hc⟩ : ∃ c, c = costF (a1 % 3) := ⟨_, rfl⟩
      have hc1 : 1 ≤ c := by rw [hc]; unfold costF; split; omega; split; omega; split; omega; omega
      have hn' : n = l / c := by rw [hn, lastsF, if_pos ⟨hv, by rw [← hc]; omega⟩, hc]
      have hn0 : 0 ≤ n := by rw [hn']; exact Int.ediv_nonneg b0 (by omega)
      have HC := Lib.hid hc
      have HQ := Lib.hid hn'
      have HV' := Lib.hid hv
      clear hn hv hc hn'
      have F : ∀ (lk sk : Int) (W : World), Held w.heap.size lk sk w W → Held w.heap.size lk sk w W := fun _ _ _ h => h
      clear F
      have HK : Held w.heap.size l s w (w.alloc (.cells #[.int .i64 l, .int .i64 s] 23)) := ⟨K, by simp, by simp, Nat.le_refl _⟩
      clear K
      go_enter Tryd.func5, Tryd.ntmps5
      go_wp2_with fail
      (with_reducible refine (head_any _ HK.kept.laid).mono ?_)
      rintro e w2 ⟨rfl, hb⟩
      have H1 := HK.below hb
      clear HK hb
      have c0 := H1.kept.c0
      have c1 := H1.kept.c1
      go_wp2_with fail
      (with_reducible refine (lasts_is l s (a1 % 3) n _ H1.kept.laid HN.out).mono ?_)
      rintro e w3 ⟨rfl, hb⟩
      have H2 := H1.below hb
      clear c0 c1 H1 hb
      have c0 := H2.kept.c0
      have c1 := H2.kept.c1
      go_wp2_with (go_at_call 16; (with_reducible refine (rvalid_any l s _ true HV.out).mono ?_); rintro e w4 ⟨rfl, rfl⟩)
      have I0 := Lib.hid ((⟨H2.alloc _, HV'.out, by simp⟩ : LInv c w.heap.size 0 l s l w (w3.alloc (.cells #[.int .i64 l, .int .i64 s] 23))))
      clear c0 c1 H2
      go_loopw [28] (fun i wr => ∃ (k : Nat) (lk sk : Int), (k : Int) ≤ n ∧ i = .int .i64 k ∧ LInv c w.heap.size k lk sk l w wr) (fun i _ => (n - intOf i).toNat)
      case atStart => exact ⟨0, l, s, hn0, rfl, I0.out⟩
      case round =>
        obtain ⟨k, lk, sk, hk, rfl, hI⟩ := hrel
        have HI := Lib.hid hI
        have H2 := hI.1
        obtain ⟨v0, v1, v2, v3, v4⟩ := valid_bd hI.2.1
        clear hI
        have c0 := H2.kept.c0
        have c1 := H2.kept.c1
        have f0 := H2.f0
        have f1 := H2.f1
        have lt0 := H2.kept.lt
        by_cases hlt : (k : Int) < n
        · obtain ⟨hS, hnext⟩ := linv_pay HI.out hc1 b0 HQ.out hlt
          have HS := Lib.hid hS
          have HX := Lib.hid hnext
          obtain ⟨l2, hl2⟩ : ∃ x, x = lk - c := ⟨_, rfl⟩
          obtain ⟨s2, hs2⟩ : ∃ x, x = sk + c := ⟨_, rfl⟩
          clear hS hnext
          rw [← hl2, ← hs2] at HS HX
          clear hl2 hs2
          have Hd := H2.drew
          go_wp2_with fail
          go_region_held3 (fun W => Held w.heap.size lk sk w W ∧ W.cell? ⟨w.heap.size, 0, none⟩ = some (.int .i64 lk) ∧ W.cell? ⟨w.heap.size, 1, none⟩ = some (.int .i64 sk))
            ((refine (fun (K9 : Held w.heap.size lk sk w _) => ⟨K9, K9.kept.c0, K9.kept.c1⟩) ?_; repeat (first | assumption | exact And.left (by assumption) | refine Held.drew ?_ | refine Held.alloc ?_ _ | refine Held.far ?_ (by simp; omega) hp (by simp; omega) _)))
            (first
              | (go_at_call 12; (with_reducible refine (cost_held (a1 % 3) c (by first | assumption | exact And.left (by assumption)) HC.out).mono ?_); rintro e W3 ⟨rfl, rfl⟩)
              | (go_at_call 10; (with_reducible refine (spend_held c l2 s2 0 (by first | assumption | exact And.left (by assumption)) HS.out).mono ?_); rintro e W9 ⟨rfl, H9, hb⟩; obtain ⟨hc9, hf9⟩ := bcell hb; have hz9 := hb.size; clear hb))
          all_goals
            have c0' := H9.kept.c0
            have c1' := H9.kept.c1
            have f0' := H9.f0
            have f1' := H9.f1
            have lt9 := H9.kept.lt
            have ne1 : ¬ wr.heap.size = w.heap.size := by omega
            have ne2 : ¬ w.heap.size = wr.heap.size := by omega
            have ne3 : ¬ W9.heap.size = w.heap.size := by omega
            have ne4 : ¬ w.heap.size = W9.heap.size := by omega
            go_wp2
            go_roundw
            case rel => exact ⟨k + 1, l2, s2, by omega, by go_num, HX.out _ (by repeat (first | assumption | exact And.left (by assumption) | refine Held.set01 (l := lk) (s := sk) ?_ hp _ _ | refine Held.drew ?_ | refine Held.alloc ?_ _ | refine Held.far ?_ (by simp; omega) hp (by simp; omega) _))⟩
            case measure => simp [intOf]; omega
        · have hkn : (k : Int) = n := by omega
          have HS := Lib.hid (linv_end HI.out hc1 HQ.out hkn)
          have Hd := H2.drew
          clear hkn
          go_wp2_with fail
          go_region_held3 (fun W => Held w.heap.size lk sk w W ∧ W.cell? ⟨w.heap.size, 0, none⟩ = some (.int .i64 lk) ∧ W.cell? ⟨w.heap.size, 1, none⟩ = some (.int .i64 sk))
            ((refine (fun (K9 : Held w.heap.size lk sk w _) => ⟨K9, K9.kept.c0, K9.kept.c1⟩) ?_; repeat (first | assumption | exact And.left (by assumption) | refine Held.drew ?_ | refine Held.alloc ?_ _ | refine Held.far ?_ (by simp; omega) hp (by simp; omega) _)))
            (first
              | (go_at_call 12; (with_reducible refine (cost_held (a1 % 3) c (by first | assumption | exact And.left (by assumption)) HC.out).mono ?_); rintro e W3 ⟨rfl, rfl⟩)
              | (go_at_call 10; (with_reducible refine (spend_held c lk sk 15 (by first | assumption | exact And.left (by assumption)) HS.out).mono ?_); rintro e W9 ⟨rfl, H9, hb⟩; obtain ⟨hc9, hf9⟩ := bcell hb; have hz9 := hb.size; clear hb))
          all_goals
            have HW : ∀ {X : World}, Held w.heap.size lk sk w X → Below w.heap.size w X := fun h => h.kept.acc
            go_wp2
            go_ret
            exact ⟨rfl, HW (by repeat (first | assumption | exact And.left (by assumption) | refine Held.set01 (l := lk) (s := sk) ?_ hp _ _ | refine Held.drew ?_ | refine Held.alloc ?_ _ | refine Held.far ?_ (by simp; omega) hp (by simp; omega) _))⟩
  · have hv : validB l s = false := by simpa using hv
    have HV := Lib.hid hv.symm
    have hn0 : n = 0 := by rw [hn, lastsF, if_neg (by rw [hv]; simp)]
    subst hn0
    have HN := Lib.hid hn
    clear hn hv
    go_enter Tryd.func5, Tryd.ntmps5
    go_wp2_with fail
    (with_reducible refine (head_kept K).mono ?_)
    rintro e w2 ⟨rfl, K1⟩
    clear K
    have c0 := K1.c0
    have c1 := K1.c1
    go_wp2_with fail
    (with_reducible refine (lasts_kept (a1 % 3) 0 l s K1 HN.out).mono ?_)
    rintro e w3 ⟨rfl, K2⟩
    clear c0 c1 K1
    have c0 := K2.c0
    have c1 := K2.c1
    go_wp2_with (go_at_call 16; (with_reducible refine (rvalid_any l s _ false HV.out).mono ?_); rintro e w3 ⟨rfl, rfl⟩)
    go_ret
    exact ⟨rfl, (K2.alloc _).acc⟩

theorem laidWorld_row (os : Os) : ((laidWorld os).forCall (fun _ _ => 0) ⟨#[], #[.agg #[.int .i64 0, .int .i64 0], .int .u8 0], []⟩).memory.heap[0]? = some (.cells costCells 38 (0, 0)) := by kernel_rfl

set_option maxRecDepth 100000 in
theorem lifted (os : Os) (started : os.Started) (H : Type) (enc : TypeId × Value → H) :
    ReturnsInHanded {} Tryd.checked os 5 .any (fun w args => (Rows.ledgerLastsSpec.pre enc Tryd.prog Tryd.f5 [] false w args ∧ laidMet Tryd.prog [("slotmesh/ledger.costs", Rows.laid_slotmesh_ledger_costs)] w) ∧ sizedMet enc Tryd.prog Tryd.f5 (OpenSpec.ofChange Rows.ledgerLastsSpec) false w args)
      (Rows.ledgerLastsSpec.post enc Tryd.prog Tryd.f5 false true false false) := by
  refine returnsInHanded_of_change_and (C := Tryd.checked) (X := fun w _ => laidMet Tryd.prog [("slotmesh/ledger.costs", Rows.laid_slotmesh_ledger_costs)] w) (fun _ _ _ hh h => h.of_heap hh) own started (by kernel_rfl) Tryd.func5
    (ChangeSpec.witness_at (enc := enc) (C := Tryd.checked) (os := os) (X := fun w _ => laidMet Tryd.prog [("slotmesh/ledger.costs", Rows.laid_slotmesh_ledger_costs)] w) false (laidWorld os) #[.agg #[.int .i64 0, .int .i64 0], .int .u8 0] 8 rfl (by kernel_rfl) (by kernel_rfl) (by kernel_rfl) (by kernel_rfl) (by kernel_rfl)
      ⟨_, ⟨0, 38, costCells, 8, [], [], by kernel_rfl, by kernel_rfl, by kernel_rfl, by kernel_rfl, rfl, rfl⟩, by decide, fun b off h => by
        have h' : MemPlace.cell b off ∈ [MemPlace.cell 0 0, .cell 0 1, .cell 0 2] := h
        have hb : b = 0 := by
          simp at h'
          omega
        subst hb
        refine ⟨⟨_, _, laidWorld_row os⟩, fun u v hc => ?_⟩
        simp only [World.cell?, laidWorld_row os] at hc
        simp at h'
        rcases h' with rfl | rfl | rfl <;> simp [costCells] at hc⟩) ?_
  intro W base args ds gs before hval0 hW _ _ hL _
  have hval : ∀ (j : Nat) t v, Tryd.f5.params[j]? = some t → args[j]? = some v → Value.okWide Tryd.prog W .any base t v := hval0
  have hW' := hW
  obtain ⟨p, q, hA0, hV, rfl, hfz, hnd⟩ := hW
  have hA : DataW.TrodAll enc Tryd.prog W 0 (fun _ => true) true Tryd.f5.params.toList args.toList ds p := hA0
  rw [Tryd.params5] at hA hval
  obtain ⟨v0, vs0, d0, ds0, p0, q0, hargs, rfl, rfl, h0, r0⟩ := trodAll_cons hA
  obtain ⟨v1, vs1, d1, ds1, p1, q1, rfl, rfl, rfl, h1, r1⟩ := trodAll_cons r0
  obtain ⟨rfl, rfl, rfl⟩ := trodAll_nil r1
  obtain rfl : args = #[v0, v1] := by cases args; simp_all
  obtain ⟨rfl, rfl⟩ := trodVars_none hV
  obtain ⟨cl0, cs0, yl0, ys0, m0, rfl, rfl, rfl, hyl0, hys0⟩ := open_agg2 Tryd.underlying23 (by kernel_rfl) cells23 (hval 0 23 v0 rfl rfl) h0
  obtain ⟨l, el0, rfl, wl⟩ := DataW.trod_int Tryd.underlying3 hyl0
  obtain ⟨s, es0, rfl, ws⟩ := DataW.trod_int Tryd.underlying3 hys0
  simp at el0 es0
  subst el0 es0
  obtain ⟨a1, rfl, rfl, rfl, w1⟩ := open_int Tryd.underlying5 (hval 1 5 v1 rfl rfl) h1
  clear hA0 hval0
  simp only [List.append_nil] at hW'
  refine (walk l s a1 w1 W (laid_of hL)).mono fun e W' ⟨he, hg⟩ => ?_
  subst he
  exact ⟨_, rfl, post_of_below (pa := []) (pv := []) hW' (fun _ _ _ => (trodAll_cons_mk (shut_bool Tryd.underlying4 _) trodAll_mk0)) (fun sp _ => (trodAll_cons_mk (shut_agg2 (y0 := (.lit (.int .i64 l), [])) (y1 := (.lit (.int .i64 s), [])) Tryd.underlying23 (by kernel_rfl) cells23 ⟨1, by simp [DataW.trod, Tryd.underlying3, wl]⟩ ⟨1, by simp [DataW.trod, Tryd.underlying3, ws]⟩) (trodAll_cons_mk (shut_int Tryd.underlying5 w1) trodAll_mk0))) (fun _ _ => rfl) rfl
    hg (ok_one (by kernel_rfl) rfl (okWide_bool_mk Tryd.underlying4 _))⟩

theorem over : Rows.ledgerLastsRow.holds Tryd.pinned (OpenSpec.ofChange Rows.ledgerLastsSpec) :=
  OpenClaim.holds_of_wide 5 Tryd.f5 rfl rfl rfl rfl rfl rfl rfl ⟨rfl, rfl, rfl, rfl, rfl⟩ rfl rfl rfl rfl rfl (by kernel_rfl) Tryd.func5 (by kernel_rfl)
    (of_decide_eq_true (by kernel_rfl)) (by unfold Func.isWrapper; rw [if_neg (of_decide_eq_false (by kernel_rfl))]; exact ⟨rfl, rfl⟩)
    (fun os started H enc _ => lifted os started H enc)

theorem proved : Rows.LedgerLastsCardSaid :=
  Claim7.holds_tied_plain_at .later [] [.data] true (true, "04b04d59300e609cfa0da7a4310f26ef7014fdb096320e0925c723bf9f6d8783") false
    over (fun _ h => by cases h) (by kernel_rfl) (fun _ h => by cases h) ledgerLasts_row_tie rfl ⟨rfl, rfl⟩ (by kernel_rfl) rfl
    (fun f fn hf hfn => by
      obtain rfl : f = 5 := Option.some.inj ((show Tryd.prog.funcNamed "slotmesh/slotmeshlaw18.LedgerLasts" = some 5 by kernel_rfl).symm.trans hf) |>.symm
      obtain rfl : fn = Tryd.f5 := (Option.some.inj (Tryd.func5.symm.trans hfn)).symm
      exact ⟨by kernel_rfl, fun j t ht => by
        rw [Tryd.params5] at ht
        have h3 : t = 5 ∨ t = 23 := by
          rcases j with _ | j
          · have e : t = 23 := by simpa using ht.symm
            subst e; simp
          · rcases j with _ | j
            · have e : t = 5 := by simpa using ht.symm
              subst e; simp
            · simp at ht
        rcases h3 with rfl | rfl
        · exact (show Tryd.prog.wantsStandIn 5 = false by kernel_rfl)
        · exact (show Tryd.prog.wantsStandIn 23 = false by kernel_rfl)⟩)
    (by kernel_rfl)
#print axioms proved
end Go.Proofs.YthjaifdlnponcaaDoor.ledgerLasts
