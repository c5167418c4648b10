/- The non-vacuity check of the laws of package ledger: it returns true. -/
import Derived.Test.YthjaifdlnponcaaDoorLedger
namespace Go.Proofs.YthjaifdlnponcaaDoor
open Go.RowKit

theorem sp1 : ((40 : Int), (65 : Int), (0 : Int)) = spendF 100 5 60 := by decide
theorem sp2 : ((40 : Int), (65 : Int), (15 : Int)) = spendF 40 65 60 := by decide
theorem sp3 : ((40 : Int), (65 : Int), (1 : Int)) = spendF 40 65 (-1) := by decide
theorem sp4 : ((1000000000 : Int), (1 : Int), (1 : Int)) = spendF 1000000000 1 1 := by decide

theorem la1 : (2 : Int) = lastsF 100 0 1 := by decide
theorem co2 : (60 : Int) = costF 2 := by decide
theorem co3 : (0 : Int) = costF 3 := by decide
theorem co4 : (0 : Int) = costF (-1) := by decide

set_option maxHeartbeats 1000000 in
theorem head_any (w : World) (hL : Laid w) : Calls Tryd.prog 9 #[] w fun e w' => e = .returned (.bool true) ∧ Below w.heap.size w w' := by
  have HL := Lib.hid hL
  clear hL
  go_enter Tryd.func9, Tryd.ntmps9
  go_wp2_with fail
  (with_reducible refine (spend_is 100 5 60 40 65 0 _ sp1).mono ?_)
  rintro e w1 ⟨rfl, hb1⟩
  obtain ⟨hc1, _⟩ := bcell hb1
  have z1 := hb1.size
  have B1 := Lib.hid hb1
  clear hb1
  go_wp2_with fail
  (with_reducible refine (spend_is 40 65 60 40 65 15 _ sp2).mono ?_)
  rintro e w2 ⟨rfl, hb2⟩
  obtain ⟨hc2, _⟩ := bcell hb2
  have z2 := hb2.size
  have B2 := Lib.hid (below_next hb2 (B1.out.alloc z1 _) (by simp; omega))
  clear hb2
  simp at z2
  replace z2 : w1.heap.size < w2.heap.size := by omega
  go_wp2_with fail
  (with_reducible refine (spend_is 40 65 (-1) 40 65 1 _ sp3).mono ?_)
  rintro e w3 ⟨rfl, hb3⟩
  obtain ⟨hc3, _⟩ := bcell hb3
  have z3 := hb3.size
  have B3 := Lib.hid (below_next hb3 (B2.out.alloc (by omega) _) (by simp; omega))
  clear hb3
  simp at z3
  replace z3 : w2.heap.size < w3.heap.size := by omega
  have y3 : w1.heap.size < w3.heap.size := by omega
  go_wp2_with fail
  (with_reducible refine (spend_is 1000000000 1 1 1000000000 1 1 _ sp4).mono ?_)
  rintro e w4 ⟨rfl, hb4⟩
  obtain ⟨hc4, _⟩ := bcell hb4
  have z4 := hb4.size
  have B4 := Lib.hid (below_next hb4 (B3.out.alloc (by omega) _) (by simp; omega))
  clear hb4
  simp at z4
  replace z4 : w3.heap.size < w4.heap.size := by omega
  have y4 : w1.heap.size < w4.heap.size := by omega
  have x4 : w2.heap.size < w4.heap.size := by omega
  go_wp2_with fail
  have L4 : Laid (w4.alloc (.cells #[.int .i64 1000000000, .int .i64 1] 23)) := HL.out.below (B4.out.alloc (by omega) _)
  (with_reducible refine (lasts_is 100 0 1 2 _ L4 la1).mono ?_)
  rintro e w5 ⟨rfl, hb5⟩
  have L5 := Lib.hid (L4.below hb5)
  have B5 := Lib.hid (below_next hb5 (B4.out.alloc (by omega) _) (by simp; omega))
  clear L4 hb5
  go_wp2_with fail
  (with_reducible refine (cost_is 2 60 _ L5.out co2).mono ?_)
  rintro e w6 ⟨rfl, rfl⟩
  go_wp2_with fail
  (with_reducible refine (cost_is 3 0 _ L5.out co3).mono ?_)
  rintro e w6 ⟨rfl, rfl⟩
  go_wp2_with fail
  (with_reducible refine (cost_is (-1) 0 _ L5.out co4).mono ?_)
  rintro e w6 ⟨rfl, rfl⟩
  go_wp2_with fail
  go_ret
  exact ⟨rfl, B5.out⟩

/-- A ledger that lies in a block of the call's own, the table of costs, and all that was there when the call began. -/
structure Kept (b : Nat) (l s : Int) (w0 W : World) : Prop where
  c0 : W.cell? ⟨b, 0, none⟩ = some (.int .i64 l)
  c1 : W.cell? ⟨b, 1, none⟩ = some (.int .i64 s)
  lt : b < W.heap.size
  laid : Laid W
  acc : Below w0.heap.size w0 W

theorem Kept.below {b : Nat} {l s : Int} {w0 W W' : World} (h : Kept b l s w0 W) (hb : Below W.heap.size W W') : Kept b l s w0 W' :=
  ⟨(hb.cell h.lt).trans h.c0, (hb.cell h.lt).trans h.c1, Nat.lt_of_lt_of_le h.lt hb.size, h.laid.below hb, below_next hb h.acc h.acc.size⟩

theorem Kept.drew {b : Nat} {l s : Int} {w0 W : World} (h : Kept b l s w0 W) : Kept b l s w0 W.drew := ⟨h.c0, h.c1, h.lt, h.laid, h.acc.drew⟩

theorem Kept.alloc {b : Nat} {l s : Int} {w0 W : World} (h : Kept b l s w0 W) (o : Obj) : Kept b l s w0 (W.alloc o) :=
  h.below ((Below.refl _ _).alloc (Nat.le_refl _) _)

theorem Kept.new {l s : Int} {w : World} (hL : Laid w) : Kept w.heap.size l s w (w.alloc (.cells #[.int .i64 l, .int .i64 s] 23)) :=
  ⟨by simp, by simp, by simp, hL.below ((Below.refl _ _).alloc (Nat.le_refl _) _), (Below.refl _ _).alloc (Nat.le_refl _) _⟩

theorem lasts_kept (n r l' s' : Int) {b : Nat} {l s : Int} {w0 W : World} (hK : Kept b l s w0 W) (h : r = lastsF l' s' n) :
    Calls Tryd.prog 14 #[.agg #[.int .i64 l', .int .i64 s'], .int .i64 n] W fun e w' => e = .returned (.int .i64 r) ∧ Kept b l s w0 w' :=
  (lasts_is l' s' n r W hK.laid h).mono fun _ _ hh => ⟨hh.1, hK.below hh.2⟩

theorem rlasts_kept (n r l' s' : Int) {b : Nat} {l s : Int} {w0 W : World} (hK : Kept b l s w0 W) (h : r = lastsF l' s' n) :
    Calls Tryd.prog 15 #[.agg #[.int .i64 l', .int .i64 s'], .int .i64 n] W fun e w' => e = .returned (.int .i64 r) ∧ Kept b l s w0 w' :=
  (rlasts_is l' s' n r W h).mono fun _ _ hh => ⟨hh.1, hK.below hh.2⟩

theorem head_kept {b : Nat} {l s : Int} {w0 W : World} (hK : Kept b l s w0 W) : Calls Tryd.prog 9 #[] W fun e w' => e = .returned (.bool true) ∧ Kept b l s w0 w' :=
  (head_any W hK.laid).mono fun _ _ hh => ⟨hh.1, hK.below hh.2⟩

theorem spend_kept (c l' s' r l2 s2 : Int) {b : Nat} {l s : Int} {w0 W : World} (hK : Kept b l s w0 W) (h : (l', s', r) = spendF l2 s2 c) :
    Calls Tryd.prog 10 #[.agg #[.int .i64 l2, .int .i64 s2], .int .i64 c] W fun e w' => e = .returned (.tuple #[.agg #[.int .i64 l', .int .i64 s'], .int .i64 r]) ∧ Kept b l s w0 w' :=
  (spend_is l2 s2 c l' s' r W h).mono fun _ _ hh => ⟨hh.1, hK.below hh.2⟩

theorem rspend_kept (c l' s' r l2 s2 : Int) {b : Nat} {l s : Int} {w0 W : World} (hK : Kept b l s w0 W) (h : (l', s', r) = spendF l2 s2 c) :
    Calls Tryd.prog 11 #[.agg #[.int .i64 l2, .int .i64 s2], .int .i64 c] W fun e w' => e = .returned (.tuple #[.agg #[.int .i64 l', .int .i64 s'], .int .i64 r]) ∧ Kept b l s w0 w' :=
  (rspend_is l2 s2 c l' s' r W h).mono fun _ _ hh => ⟨hh.1, hK.below hh.2⟩

theorem rvalid_kept (l2 s2 : Int) (v : Bool) {b : Nat} {l s : Int} {w0 W : World} (hK : Kept b l s w0 W) (h : v = validB l2 s2) :
    Calls Tryd.prog 16 #[.agg #[.int .i64 l2, .int .i64 s2]] W fun e w' => e = .returned (.bool v) ∧ Kept b l s w0 w' :=
  (rvalid_any l2 s2 W v h).mono fun _ _ hh => ⟨hh.1, by rw [← hh.2]; exact hK.alloc _⟩

end Go.Proofs.YthjaifdlnponcaaDoor
