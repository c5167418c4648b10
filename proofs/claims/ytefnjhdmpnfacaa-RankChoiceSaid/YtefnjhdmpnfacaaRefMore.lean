/- Contracts of the reference's Possible and Before. -/
import Derived.Test.YtefnjhdmpnfacaaOffers
import Derived.Test.YtefnjhdmpnfacaaRenew
namespace Go.Proofs.Ytefnjhdmpnfacaa
open Go.RowKit

set_option maxHeartbeats 1000000 in
theorem rposs_is (o rr l lr par p s k c : Int) (v : Bool) (w : World) (h : v = possB ⟨o, rr, l, lr, par⟩ ⟨p, s, k, c⟩) (b0 : 0 ≤ k) (b1 : k ≤ 1000000) (b2 : 1 ≤ c) (b3 : c ≤ 4096) :
    Calls Try.prog 27 #[.agg #[.int .i64 o, .int .i64 rr, .int .i64 l, .int .i64 lr, .int .i64 par], .agg #[.int .i64 p, .int .i64 s, .int .i64 k, .int .i64 c]] w fun e w' => e = .returned (.bool v) ∧ Below w.heap.size w w' := by
  simp only [possB] at h
  by_cases h0 : 1000000 ≤ k + c
  · obtain rfl : v = false := by rw [h, decide_eq_false (by omega)]; rfl
    clear h
    go_enter Try.func27, Try.ntmps27
    go_wp2
    go_ret
    exact ⟨rfl, (((Below.refl _ _).alloc (Nat.le_refl _) _).alloc (by simp) _)⟩
  · rw [decide_eq_true (by omega), Bool.true_and] at h
    rcases Bool.eq_false_or_eq_true (betB s k l lr) with h1 | h1
    · obtain rfl : v = true := by rw [h, h1]; rfl
      have H1 := Lib.hid h1.symm
      clear h h1
      go_enter Try.func27, Try.ntmps27
      go_wp2_with (go_at_call 21; (with_reducible refine (rbetter_is s k l lr true _ H1.out).mono ?_); rintro e w' ⟨rfl, rfl⟩)
      go_ret
      exact ⟨rfl, by repeat (first | exact Below.refl _ _ | refine Below.alloc ?_ (by simp; try omega) _)⟩
    · rw [h1, Bool.false_or] at h
      have H1 := Lib.hid h1.symm
      clear h1
      by_cases h2 : p = par
      · subst h2
        obtain rfl : v = decide (o ≤ s) := by rw [h]; simp
        clear h
        go_enter Try.func27, Try.ntmps27
        go_wp2_with (go_at_call 21; (with_reducible refine (rbetter_is s k l lr false _ H1.out).mono ?_); rintro e w' ⟨rfl, rfl⟩)
        go_ret
        exact ⟨rfl, by repeat (first | exact Below.refl _ _ | refine Below.alloc ?_ (by simp; try omega) _)⟩
      · obtain rfl : v = false := by rw [h]; simp [h2]
        have h2' : (p == par) = false := by simpa using h2
        clear h h2
        go_enter Try.func27, Try.ntmps27
        go_wp2_with (go_at_call 21; (with_reducible refine (rbetter_is s k l lr false _ H1.out).mono ?_); rintro e w' ⟨rfl, rfl⟩)
        go_ret
        exact ⟨rfl, by repeat (first | exact Below.refl _ _ | refine Below.alloc ?_ (by simp; try omega) _)⟩

set_option maxHeartbeats 1000000 in
theorem rbef_is (p s k c q t l d : Int) (v : Bool) (w : World) (h : v = befB ⟨p, s, k, c⟩ ⟨q, t, l, d⟩) (b0 : 0 ≤ k) (b1 : k ≤ 1000000) (b2 : 1 ≤ c) (b3 : c ≤ 4096) (d0 : 0 ≤ l) (d1 : l ≤ 1000000) (d2 : 1 ≤ d) (d3 : d ≤ 4096) :
    Calls Try.prog 28 #[.agg #[.int .i64 p, .int .i64 s, .int .i64 k, .int .i64 c], .agg #[.int .i64 q, .int .i64 t, .int .i64 l, .int .i64 d]] w fun e w' => e = .returned (.bool v) ∧ Below w.heap.size w w' := by
  simp only [befB, betB] at h
  by_cases h0 : s = t
  · subst h0
    by_cases h1 : k + c < l + d
    · obtain rfl : v = true := by rw [h]; simp [h1]
      clear h
      go_enter Try.func28, Try.ntmps28
      go_wp2
      go_ret
      exact ⟨rfl, (((Below.refl _ _).alloc (Nat.le_refl _) _).alloc (by simp) _)⟩
    · have h1' : decide (k + c < l + d) = false := decide_eq_false h1
      by_cases h2 : k + c = l + d
      · obtain rfl : v = decide (p < q) := by rw [h]; simp [h2]
        have h2' : (k + c == l + d) = true := by simpa using h2
        clear h h1
        go_enter Try.func28, Try.ntmps28
        go_wp2
        go_ret
        exact ⟨rfl, (((Below.refl _ _).alloc (Nat.le_refl _) _).alloc (by simp) _)⟩
      · obtain rfl : v = false := by rw [h]; simp [h2]; omega
        have h2' : (k + c == l + d) = false := by simpa using h2
        clear h h1 h2
        go_enter Try.func28, Try.ntmps28
        go_wp2
        go_ret
        exact ⟨rfl, (((Below.refl _ _).alloc (Nat.le_refl _) _).alloc (by simp) _)⟩
  · obtain rfl : v = decide (t < s) := by rw [h]; simp [h0]
    have h0' : (s != t) = true := by simpa using h0
    clear h h0
    go_enter Try.func28, Try.ntmps28
    go_wp2
    go_ret
    exact ⟨rfl, (((Below.refl _ _).alloc (Nat.le_refl _) _).alloc (by simp) _)⟩

end Go.Proofs.Ytefnjhdmpnfacaa
