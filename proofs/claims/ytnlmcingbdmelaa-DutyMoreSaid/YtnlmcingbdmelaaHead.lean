/- The non-vacuity check of the laws of package duty: it returns true. -/
import Derived.Test.YtnlmcingbdmelaaDuty
namespace Go.Proofs.Ytnlmcingbdmelaa
open Go.RowKit

theorem head_any (w : World) : Calls Try.prog 9 #[] w fun e w' => e = .returned (.bool true) ∧ Below w.heap.size w w' := by
  have e1 : needF 5 1 false = 2 := by decide
  have e2 : needF 5 1 true = 0 := by decide
  have e3 : needF 0 3 false = 0 := by decide
  have e4 : needF 16 0 false = 6 := by decide
  have e5 : needF 17 0 false = 0 := by decide
  have f1 : spareF 0 3 4 = 3 := by decide
  have f2 : spareF 0 3 3 = 0 := by decide
  have f3 : spareF 3 2 9 = 0 := by decide
  have f4 : spareF 0 25 9 = 0 := by decide
  have acc : Below w.heap.size w w := Below.refl _ _
  go_enter Try.func9, Try.ntmps9
  go_wp2_with (first | (go_at_call 10; (with_reducible refine (need_any _ _ _ _).mono ?_); rintro e w' ⟨rfl, hn⟩; replace acc := acc.trans (hn.mono acc.size); clear hn) | (go_at_call 12; (with_reducible refine (spare_any _ _ _ _).mono ?_); rintro e w' ⟨rfl, hn⟩; replace acc := acc.trans (hn.mono acc.size); clear hn))
  go_ret
  exact ⟨rfl, acc⟩

theorem need_is (n c : Int) (full : Bool) (r : Int) (w : World) (h : r = needF n c full) :
    Calls Try.prog 10 #[.int .i64 n, .int .i64 c, .bool full] w fun e w' => e = .returned (.int .i64 r) ∧ Below w.heap.size w w' := h ▸ need_any n c full w

theorem spare_is (n c idle : Int) (r : Int) (w : World) (h : r = spareF n c idle) :
    Calls Try.prog 12 #[.int .i64 n, .int .i64 c, .int .i64 idle] w fun e w' => e = .returned (.int .i64 r) ∧ Below w.heap.size w w' := h ▸ spare_any n c idle w

/-! What the laws need to know of the two numbers. -/
theorem need_right {n c : Int} (h : rightB n c = true) (full : Bool) : needF n c full = if full = false then max 0 (want n - c) else 0 := by
  have h := of_decide_eq_true h
  cases full <;> simp [needF, h]

theorem spare_right {n c : Int} (h : rightB n c = true) (idle : Int) : spareF n c idle = if 4 ≤ idle then max 0 (-(want n - c)) else 0 := by
  have h := of_decide_eq_true h
  simp [spareF, h]

theorem right_bd {n c : Int} (h : rightB n c = true) : 0 ≤ n ∧ n ≤ 16 ∧ 0 ≤ c ∧ c ≤ 24 := of_decide_eq_true h

theorem right_mk {n c : Int} (h : 0 ≤ n ∧ n ≤ 16 ∧ 0 ≤ c ∧ c ≤ 24) : rightB n c = true := decide_eq_true h

theorem need_lo (n c : Int) (full : Bool) : 0 ≤ needF n c full ∧ needF n c full ≤ 6 := by
  unfold needF want
  split <;> omega

theorem spare_lo (n c idle : Int) : 0 ≤ spareF n c idle ∧ spareF n c idle ≤ 24 := by
  unfold spareF want
  split <;> omega

theorem not_both (n c idle : Int) (full : Bool) (h : needF n c full ≠ 0) : spareF n c idle = 0 := by
  unfold needF at h
  unfold spareF
  split at h
  · split <;> omega
  · omega

end Go.Proofs.Ytnlmcingbdmelaa
