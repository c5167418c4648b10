/- The non-vacuity check of the laws of package rank: it returns true. -/
import Derived.Test.YtefnjhdmpnfacaaRenew
namespace Go.Proofs.Ytefnjhdmpnfacaa
open Go.RowKit

theorem offer_ex (p s k c : Int) (w : World) :
    Calls Try.prog 30 #[.int .i64 p, .int .i64 s, .int .i64 k, .int .i64 c] w fun e w' => e = .returned (.agg #[.int .i64 p, .int .i64 s, .int .i64 k, .int .i64 c]) ∧ w.alloc (.cells #[.int .i64 p, .int .i64 s, .int .i64 k, .int .i64 c] 45) = w' := by
  go_enter Try.func30, Try.ntmps30
  go_wp2
  refine bodyPost_ret (v := .agg #[.int .i64 p, .int .i64 s, .int .i64 k, .int .i64 c]) (by simp [results, Try.results30, go_sem]) rfl ⟨rfl, rfl⟩

theorem is_yes (s o l p : Int) (w : World) :
    Calls Try.prog 31 #[.agg #[.int .i64 s, .int .i64 o, .int .i64 s, .int .i64 l, .int .i64 p], .int .i64 s, .int .i64 o, .int .i64 l, .int .i64 p] w fun e w' => e = .returned (.bool true) ∧ Below w.heap.size w w' := by
  go_enter Try.func31, Try.ntmps31
  go_wp2
  go_ret
  exact ⟨rfl, (Below.refl _ _).alloc (Nat.le_refl _) _⟩

/-- One offer, or two, in a slice of the call's own. -/
theorem offs_one {w : World} {n : Nat} (p s k c : Int) (h : Whole w n 45 #[.int .i64 p, .int .i64 s, .int .i64 k, .int .i64 c]) : Offs w (some ⟨n, 0, none⟩) 1 [⟨p, s, k, c⟩] :=
  ⟨rfl, fun _ => ⟨n, 0, rfl, h.lt, fun i x hx => by
    match i, hx with
    | 0, hx =>
      obtain rfl : ⟨p, s, k, c⟩ = x := by simpa using hx
      exact ⟨h.cell 0, h.cell 1, h.cell 2, h.cell 3⟩
    | i + 1, hx => simp at hx⟩⟩

theorem offs_two {w : World} {n : Nat} (p s k c p' s' k' c' : Int) (h : Whole w n 45 #[.int .i64 p, .int .i64 s, .int .i64 k, .int .i64 c, .int .i64 p', .int .i64 s', .int .i64 k', .int .i64 c']) : Offs w (some ⟨n, 0, none⟩) 2 [⟨p, s, k, c⟩, ⟨p', s', k', c'⟩] :=
  ⟨rfl, fun _ => ⟨n, 0, rfl, h.lt, fun i y hy => by
    match i, hy with
    | 0, hy =>
      obtain rfl : ⟨p, s, k, c⟩ = y := by simpa using hy
      exact ⟨h.cell 0, h.cell 1, h.cell 2, h.cell 3⟩
    | 1, hy =>
      obtain rfl : ⟨p', s', k', c'⟩ = y := by simpa using hy
      exact ⟨h.cell 4, h.cell 5, h.cell 6, h.cell 7⟩
    | i + 2, hy => simp at hy⟩⟩

theorem choose_lit (a b c d e a' b' c' d' e' : Int) (xs : List Off) (A : Option Addr) (len cap : Nat) (w : World) (hx : Offs w A len xs) (hlen : len ≤ 1000000) (h : chooseF ⟨a, b, c, d, e⟩ xs = ⟨a', b', c', d', e'⟩) :
    Calls Try.prog 18 #[.agg #[.int .i64 a, .int .i64 b, .int .i64 c, .int .i64 d, .int .i64 e], .slice A len cap] w fun x w' => x = .returned (.agg #[.int .i64 a', .int .i64 b', .int .i64 c', .int .i64 d', .int .i64 e']) ∧ Below w.heap.size w w' := by
  have k := choose_is ⟨a, b, c, d, e⟩ xs A len cap w hx hlen
  rw [h] at k
  exact k

theorem renew_lit (a b c d e s a' b' c' d' e' : Int) (w : World) (h : renewF ⟨a, b, c, d, e⟩ s = ⟨a', b', c', d', e'⟩) :
    Calls Try.prog 25 #[.agg #[.int .i64 a, .int .i64 b, .int .i64 c, .int .i64 d, .int .i64 e], .int .i64 s] w fun x w' => x = .returned (.agg #[.int .i64 a', .int .i64 b', .int .i64 c', .int .i64 d', .int .i64 e']) ∧ Below w.heap.size w w' := by
  have k := renew_is ⟨a, b, c, d, e⟩ s w
  rw [h] at k
  exact k

theorem be_r : true = betB 1 9 0 0 := by decide
theorem fe_1 : true = feasB ⟨4, 128, 4, 128, 0⟩ 4 127 := by decide
theorem fe_2 : false = feasB ⟨4, 128, 4, 128, 0⟩ 4 128 := by decide
theorem ch_a : chooseF ⟨3, 1000000, 3, 0, -1⟩ [⟨0, 3, 0, 128⟩] = ⟨3, 1000000, 3, 0, -1⟩ := by decide
theorem ch_b : chooseF ⟨3, 1000000, 3, 0, -1⟩ [⟨0, 4, 0, 128⟩] = ⟨4, 128, 4, 128, 0⟩ := by decide
theorem ch_c : chooseF ⟨4, 128, 4, 128, 0⟩ [⟨5, 4, 100, 128⟩, ⟨0, 4, 0, 200⟩] = ⟨4, 200, 4, 128, 0⟩ := by decide
theorem ch_d : chooseF ⟨4, 200, 4, 128, 0⟩ [⟨0, 4, 300, 128⟩] = ⟨4, 428, 4, 128, 0⟩ := by decide
theorem ch_e : chooseF ⟨4, 428, 4, 128, 0⟩ [⟨5, 4, 127, 128⟩] = ⟨4, 255, 4, 128, 5⟩ := by decide
theorem ch_f : chooseF ⟨4, 255, 4, 128, 5⟩ [⟨5, 4, 1000000, 128⟩, ⟨6, 4, 128, 128⟩] = ⟨4, 1000000, 4, 128, -1⟩ := by decide
theorem st_s : (⟨3, 1000000, 3, 0, -1⟩ : Rte) = startF false 3 := by decide
theorem st_r : (⟨2, 0, 2, 0, -1⟩ : Rte) = startF true 2 := by decide
theorem rn_r : renewF ⟨2, 0, 2, 0, -1⟩ 7 = ⟨7, 0, 7, 0, -1⟩ := by decide

end Go.Proofs.Ytefnjhdmpnfacaa
