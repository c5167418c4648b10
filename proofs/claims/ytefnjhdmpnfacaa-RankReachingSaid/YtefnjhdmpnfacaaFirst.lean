/- The contract of package rank's loop over the offers: the first one of the possible ones. -/
import Derived.Test.YtefnjhdmpnfacaaMem
import Derived.Deep.LoopGhost
namespace Go.Proofs.Ytefnjhdmpnfacaa
open Go.RowKit

/-- What is known in a round: the best offer lies in block w.heap.size + 1, the result's block is w.heap.size. -/
structure FI (w wr : World) (o : Off) : Prop where
  acc : Below w.heap.size w wr
  res : Whole wr w.heap.size 45 #[.int .i64 0, .int .i64 0, .int .i64 0, .int .i64 0]
  best : Whole wr (w.heap.size + 1) 45 o.cells

theorem FI.below {w wr wx : World} {o : Off} (h : FI w wr o) (hb : Below wr.heap.size wr wx) : FI w wx o :=
  ⟨below_next hb h.acc h.acc.size, h.res.below hb h.res.lt, h.best.below hb h.best.lt⟩

theorem FI.alloc {w wr : World} {o : Off} (h : FI w wr o) (x : Obj) : FI w (wr.alloc x) o := h.below ((Below.refl _ _).alloc (Nat.le_refl _) _)

theorem FI.store {w wr : World} {o : Off} (h : FI w wr o) (a b c d : Int) :
    FI w ((((wr.setCell ⟨w.heap.size + 1, 0, none⟩ (.int .i64 a)).setCell ⟨w.heap.size + 1, 1, none⟩ (.int .i64 b)).setCell ⟨w.heap.size + 1, 2, none⟩ (.int .i64 c)).setCell ⟨w.heap.size + 1, 3, none⟩ (.int .i64 d)) ⟨a, b, c, d⟩ :=
  ⟨(((h.acc.setCell (by simp) _).setCell (by simp) _).setCell (by simp) _).setCell (by simp) _,
    (((h.res.far (by simp) _).far (by simp) _).far (by simp) _).far (by simp) _,
    (((h.best.set 0 _).set 1 _).set 2 _).set 3 _⟩

def Off.zero : Off := ⟨0, 0, 0, 0⟩

theorem pick_mem {r : Rte} {best : Option Off} {o b : Off} (h : pick r best o = some b) : b = o ∨ best = some b := by
  unfold pick at h
  split at h
  · split at h
    · exact .inl (Option.some.inj h).symm
    · split at h
      · exact .inl (Option.some.inj h).symm
      · exact .inr h
  · exact .inr h

theorem pick_no {r : Rte} {best : Option Off} {o : Off} (h : possB r o = false) : pick r best o = best := by
  unfold pick
  rw [if_neg (by rw [h]; exact Bool.false_ne_true)]

theorem foldl_mem {r : Rte} : ∀ (l : List Off) (best : Option Off) (b : Off), l.foldl (pick r) best = some b → b ∈ l ∨ best = some b
  | [], _, _, h => .inr h
  | o :: l, best, b, h => by
    rcases foldl_mem l _ b h with h1 | h1
    · exact .inl (List.mem_cons_of_mem _ h1)
    · rcases pick_mem h1 with rfl | h2
      · exact .inl List.mem_cons_self
      · exact .inr h2

theorem first_mem {r : Rte} {xs : List Off} {k : Nat} {b : Off} (h : some b = firstF r (xs.take k)) : b ∈ xs := by
  rcases foldl_mem _ _ b h.symm with h1 | h1
  · exact List.mem_of_mem_take h1
  · cases h1

set_option maxHeartbeats 1000000 in
theorem first_is (r : Rte) (xs : List Off) (A : Option Addr) (len cap rb : Nat) (w : World) (hx : Offs w A len xs) (hr : RAt w rb r) (hv : ∀ o ∈ xs, offB o = true) (hlen : len ≤ 1000000) :
    Calls Try.prog 38 #[.slice A len cap, .func (.func 36) #[] #[.pointer (some ⟨rb, 0, none⟩)], .func (.func 39) #[] #[]] w fun e w' =>
      e = .returned (.tuple #[.agg ((firstF r xs).getD Off.zero).cells, .bool (firstF r xs).isSome]) ∧ Below w.heap.size w w' := by
  have HX := Lib.hid hx
  have HR := Lib.hid hr
  have HV := Lib.hid hv
  clear hx hr hv
  go_enter Try.func38, Try.ntmps38
  go_wp2_with fail
  have F0 : FI w ((w.alloc (.cells #[.int .i64 0, .int .i64 0, .int .i64 0, .int .i64 0] 45)).alloc (.cells #[.int .i64 0, .int .i64 0, .int .i64 0, .int .i64 0] 45)) Off.zero :=
    ⟨((Below.refl _ _).alloc (Nat.le_refl _) _).alloc (by simp) _, (Whole.new _ _ _).alloc _, Whole.new_at (by simp)⟩
  have HF := Lib.hid F0
  clear F0
  go_loopw [9, 14] (fun f i wr => ∃ (k : Nat) (best : Option Off), k ≤ len ∧ i = .int .i64 k ∧ f = .bool best.isSome ∧ best = firstF r (xs.take k) ∧ FI w wr (best.getD Off.zero)) (fun _ i _ => len - (intOf i).toNat)
  case atStart => exact ⟨0, none, by omega, rfl, rfl, by simp [firstF], HF.out⟩
  case round =>
    obtain ⟨k, best, hk, rfl, rfl, hbest, hF⟩ := hrel
    have HB := Lib.hid hbest
    clear hbest
    by_cases hlt : k < len
    · obtain ⟨b, off, o, rfl, ho, c0, c1, c2, c3⟩ := (HX.out.below hF.acc).at_ hlt
      have hvo := off_bd (HV.out o (List.mem_of_getElem? ho))
      obtain ⟨_, _, ⟨_, _, v0, v1⟩, v2, v3⟩ := hvo
      have HO := Lib.hid ho
      clear ho
      have hRr := HR.out.below hF.acc
      rcases Bool.eq_false_or_eq_true (possB r o) with hp | hp
      · have HP := Lib.hid hp.symm
        clear hp
        cases best with
        | none =>
          go_wp2_with fail
          (with_reducible refine (choose1_is r o.peer o.seq o.rank o.cost rb true _ (hRr.below ((Below.refl _ _).alloc (Nat.le_refl _) _)) HP.out v0 v1 v2 v3).mono ?_)
          rintro e w1 ⟨rfl, hb⟩
          have F1 := (hF.alloc _).below hb
          have O1 : Whole w1 wr.heap.size 45 o.cells := (Whole.new wr 45 o.cells).below hb (by simp)
          have l1 := O1.lt
          clear c0 c1 c2 c3 hb hF hRr
          obtain ⟨o0, o1, o2, o3, _, _, _, _⟩ := O1.offer
          obtain ⟨n0, n1, n2, n3, m0, m1, m2, m3⟩ := F1.best.offer
          have ln := F1.best.lt
          go_wp2
          go_roundw
          case rel => exact ⟨k + 1, some o, by omega, by go_num, rfl, by rw [first_step r xs HO.out, ← HB.out, pick, if_pos HP.out.symm], F1.store _ _ _ _⟩
          case measure => simp [intOf]; omega
        | some bst =>
          have hvb : offB bst = true := HV.out bst (first_mem HB.out)
          obtain ⟨_, _, ⟨_, _, y0, y1⟩, y2, y3⟩ := off_bd hvb
          rcases Bool.eq_false_or_eq_true (befB o bst) with hq | hq
          · have HQ := Lib.hid hq.symm
            clear hq hvb
            go_wp2_with fail
            (with_reducible refine (choose1_is r o.peer o.seq o.rank o.cost rb true _ (hRr.below ((Below.refl _ _).alloc (Nat.le_refl _) _)) HP.out v0 v1 v2 v3).mono ?_)
            rintro e w1 ⟨rfl, hb⟩
            have F1 := (hF.alloc _).below hb
            have O1 : Whole w1 wr.heap.size 45 o.cells := (Whole.new wr 45 o.cells).below hb (by simp)
            have l1 := O1.lt
            clear c0 c1 c2 c3 hb hF hRr
            obtain ⟨o0, o1, o2, o3, _, _, _, _⟩ := O1.offer
            obtain ⟨n0, n1, n2, n3, m0, m1, m2, m3⟩ := F1.best.offer
            go_wp2_with fail
            (with_reducible refine (choose2_is o.peer o.seq o.rank o.cost bst.peer bst.seq bst.rank bst.cost true _ HQ.out v0 v1 v2 v3 y0 y1 y2 y3).mono ?_)
            rintro e w2 ⟨rfl, hb⟩
            have F2 := F1.below hb
            have O2 : Whole w2 wr.heap.size 45 o.cells := O1.below hb O1.lt
            clear o0 o1 o2 o3 n0 n1 n2 n3 m0 m1 m2 m3 l1 hb F1 O1
            have l1 := O2.lt
            obtain ⟨o0, o1, o2, o3, _, _, _, _⟩ := O2.offer
            obtain ⟨n0, n1, n2, n3, m0, m1, m2, m3⟩ := F2.best.offer
            go_wp2
            go_roundw
            case rel => exact ⟨k + 1, some o, by omega, by go_num, rfl, by rw [first_step r xs HO.out, ← HB.out, pick, if_pos HP.out.symm]; exact (if_pos HQ.out.symm).symm, F2.store _ _ _ _⟩
            case measure => simp [intOf]; omega
          · have HQ := Lib.hid hq.symm
            clear hq hvb
            go_wp2_with fail
            (with_reducible refine (choose1_is r o.peer o.seq o.rank o.cost rb true _ (hRr.below ((Below.refl _ _).alloc (Nat.le_refl _) _)) HP.out v0 v1 v2 v3).mono ?_)
            rintro e w1 ⟨rfl, hb⟩
            have F1 := (hF.alloc _).below hb
            have O1 : Whole w1 wr.heap.size 45 o.cells := (Whole.new wr 45 o.cells).below hb (by simp)
            have l1 := O1.lt
            clear c0 c1 c2 c3 hb hF hRr
            obtain ⟨o0, o1, o2, o3, _, _, _, _⟩ := O1.offer
            obtain ⟨n0, n1, n2, n3, m0, m1, m2, m3⟩ := F1.best.offer
            go_wp2_with fail
            (with_reducible refine (choose2_is o.peer o.seq o.rank o.cost bst.peer bst.seq bst.rank bst.cost false _ HQ.out v0 v1 v2 v3 y0 y1 y2 y3).mono ?_)
            rintro e w2 ⟨rfl, hb⟩
            have F2 := F1.below hb
            have O2 : Whole w2 wr.heap.size 45 o.cells := O1.below hb O1.lt
            clear o0 o1 o2 o3 n0 n1 n2 n3 m0 m1 m2 m3 l1 hb F1 O1
            have l1 := O2.lt
            obtain ⟨o0, o1, o2, o3, _, _, _, _⟩ := O2.offer
            obtain ⟨n0, n1, n2, n3, m0, m1, m2, m3⟩ := F2.best.offer
            go_wp2
            go_roundw
            case rel => exact ⟨k + 1, some bst, by omega, by go_num, rfl, by rw [first_step r xs HO.out, ← HB.out, pick, if_pos HP.out.symm]; exact (if_neg (by rw [← HQ.out]; exact Bool.false_ne_true)).symm, F2⟩
            case measure => simp [intOf]; omega
      · have HP := Lib.hid hp.symm
        clear hp
        go_wp2_with fail
        (with_reducible refine (choose1_is r o.peer o.seq o.rank o.cost rb false _ (hRr.below ((Below.refl _ _).alloc (Nat.le_refl _) _)) HP.out v0 v1 v2 v3).mono ?_)
        rintro e w1 ⟨rfl, hb⟩
        have F1 := (hF.alloc _).below hb
        have O1 : Whole w1 wr.heap.size 45 o.cells := (Whole.new wr 45 o.cells).below hb (by simp)
        have l1 := O1.lt
        clear c0 c1 c2 c3 hb hF hRr
        obtain ⟨o0, o1, o2, o3, _, _, _, _⟩ := O1.offer
        obtain ⟨n0, n1, n2, n3, m0, m1, m2, m3⟩ := F1.best.offer
        go_wp2
        go_roundw
        case rel => exact ⟨k + 1, best, by omega, by go_num, rfl, by rw [first_step r xs HO.out, ← HB.out, pick_no HP.out.symm], F1⟩
        case measure => simp [intOf]; omega
    · have hkl : k = xs.length := by have := HX.out.1; omega
      have HE : Hid (best = firstF r xs) := by rw [HB.out, hkl, List.take_length]; exact Lib.hid rfl
      clear hkl
      obtain ⟨n0, n1, n2, n3, m0, m1, m2, m3⟩ := hF.best.offer
      have z0 : wr.cell? ⟨w.heap.size, 0, none⟩ = some (.int .i64 0) := hF.res.cell 0
      have z1 : wr.cell? ⟨w.heap.size, 1, none⟩ = some (.int .i64 0) := hF.res.cell 1
      have z2 : wr.cell? ⟨w.heap.size, 2, none⟩ = some (.int .i64 0) := hF.res.cell 2
      have z3 : wr.cell? ⟨w.heap.size, 3, none⟩ = some (.int .i64 0) := hF.res.cell 3
      have y0 := hF.res.frozen 0
      have y1 := hF.res.frozen 1
      have y2 := hF.res.frozen 2
      have y3 := hF.res.frozen 3
      go_wp2
      rw [← HE.out]
      refine bodyPost_ret (v := .tuple #[.agg (best.getD Off.zero).cells, .bool best.isSome]) (by simp [results, Try.results38, go_sem, Off.cells, z0, z1, z2, z3]) rfl ⟨rfl, ?_⟩
      repeat (first | exact hF.acc | refine Below.setCell ?_ (by simp) _)

end Go.Proofs.Ytefnjhdmpnfacaa
