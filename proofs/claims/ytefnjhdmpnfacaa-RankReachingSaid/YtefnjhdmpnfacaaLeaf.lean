/- Contracts of package rank's small functions. -/
import Derived.Test.YtefnjhdmpnfacaaPlain
namespace Go.Proofs.Ytefnjhdmpnfacaa
open Go.RowKit

theorem below_next {B : Nat} {a W w1 : World} (hb : Below W.heap.size W w1) (h : Below B a W) (hB : B ≤ W.heap.size) : Below B a w1 := h.trans (hb.mono hB)
theorem below_drewN {B : Nat} {a w : World} (h : Below B a w) (n : Nat) : Below B a (w.drewN n) := ⟨h.os, h.tape, h.output, h.size, h.block⟩
theorem bcell {W w1 : World} (hb : Below W.heap.size W w1) : (∀ b o, b < W.heap.size → w1.cell? ⟨b, o, none⟩ = W.cell? ⟨b, o, none⟩) ∧ (∀ b o, b < W.heap.size → w1.frozen? ⟨b, o, none⟩ = W.frozen? ⟨b, o, none⟩) :=
  ⟨fun b o h => hb.cell (p := ⟨b, o, none⟩) h, fun b o h => hb.frozen (p := ⟨b, o, none⟩) h⟩

/-- The world behind 'better'. -/
theorem wbetter_is (a x b y : Int) (r : Bool) (w : World) (h : r = betB a x b y) :
    Calls Try.prog 41 #[.agg #[.int .i64 a, .int .i64 x], .agg #[.int .i64 b, .int .i64 y]] w fun e w' => e = .returned (.bool r) ∧ (w.alloc (.cells #[.int .i64 a, .int .i64 x] 72)).alloc (.cells #[.int .i64 b, .int .i64 y] 41) = w' := by
  by_cases h1 : b < a
  · obtain rfl : r = true := by rw [h]; exact bet_t (.inl h1)
    clear h
    go_enter Try.func41, Try.ntmps41
    go_wp2
    go_ret
    exact ⟨rfl, rfl⟩
  · by_cases h2 : a = b
    · subst h2
      by_cases h3 : x < y
      · obtain rfl : r = true := by rw [h]; exact bet_t (.inr ⟨rfl, h3⟩)
        clear h
        go_enter Try.func41, Try.ntmps41
        go_wp2
        go_ret
        exact ⟨rfl, rfl⟩
      · obtain rfl : r = false := by rw [h]; exact bet_f (by omega)
        clear h
        have h4 : decide (x < y) = false := decide_eq_false h3
        go_enter Try.func41, Try.ntmps41
        go_wp2
        go_ret
        exact ⟨rfl, rfl⟩
    · obtain rfl : r = false := by rw [h]; exact bet_f (by omega)
      have h4 : (a == b) = false := by simpa using h2
      clear h h2
      go_enter Try.func41, Try.ntmps41
      go_wp2
      go_ret
      exact ⟨rfl, rfl⟩

theorem wvalid_is (s k : Int) (r : Bool) (w : World) (h : r = dstB s k) :
    Calls Try.prog 42 #[.agg #[.int .i64 s, .int .i64 k]] w fun e w' => e = .returned (.bool r) ∧ w.alloc (.cells #[.int .i64 s, .int .i64 k] 72) = w' := by
  unfold dstB at h
  by_cases h0 : s < 0
  · obtain rfl : r = false := by rw [h]; exact decide_eq_false (by omega)
    clear h
    go_enter Try.func42, Try.ntmps42
    go_wp2
    go_ret
    exact ⟨rfl, rfl⟩
  · by_cases h1 : 1000000000 < s
    · obtain rfl : r = false := by rw [h]; exact decide_eq_false (by omega)
      clear h
      go_enter Try.func42, Try.ntmps42
      go_wp2
      go_ret
      exact ⟨rfl, rfl⟩
    · by_cases h2 : k < 0
      · obtain rfl : r = false := by rw [h]; exact decide_eq_false (by omega)
        clear h
        go_enter Try.func42, Try.ntmps42
        go_wp2
        go_ret
        exact ⟨rfl, rfl⟩
      · obtain rfl : r = decide (k ≤ 1000000) := by rw [h]; exact decide_eq_decide.2 (by omega)
        clear h
        go_enter Try.func42, Try.ntmps42
        go_wp2
        go_ret
        exact ⟨rfl, rfl⟩

theorem better_is (a x b y : Int) (r : Bool) (w : World) (h : r = betB a x b y) :
    Calls Try.prog 19 #[.agg #[.int .i64 a, .int .i64 x], .agg #[.int .i64 b, .int .i64 y]] w fun e w' => e = .returned (.bool r) ∧ Below w.heap.size w w' := by
  have H := Lib.hid h
  clear h
  go_enter Try.func19, Try.ntmps19
  go_wp2_with (go_at_call 41; (with_reducible refine (wbetter_is a x b y r _ H.out).mono ?_); rintro e w' ⟨rfl, rfl⟩)
  go_ret
  exact ⟨rfl, ((((Below.refl _ _).alloc (Nat.le_refl _) _).alloc (by simp) _).alloc (by simp; omega) _).alloc (by simp; omega) _⟩

/-- The world behind 'through'. -/
theorem through_is (p s k c : Int) (w : World) (b0 : 0 ≤ k) (b1 : k ≤ 1000000) (b2 : 1 ≤ c) (b3 : c ≤ 4096) :
    Calls Try.prog 40 #[.agg #[.int .i64 p, .int .i64 s, .int .i64 k, .int .i64 c]] w fun e w' => e = .returned (.agg #[.int .i64 s, .int .i64 (k + c)]) ∧ Below w.heap.size w w' := by
  go_enter Try.func40, Try.ntmps40
  go_wp2
  refine bodyPost_ret (v := .agg #[.int .i64 s, .int .i64 (k + c)]) (by simp [results, Try.results40, go_sem]) rfl ⟨rfl, ?_⟩
  exact ((Below.refl _ _).alloc (Nat.le_refl _) _).alloc (by simp) _

theorem start_is (root : Bool) (seq : Int) (r : Rte) (w : World) (h : r = startF root seq) :
    Calls Try.prog 17 #[.bool root, .int .i64 seq] w fun e w' => e = .returned (.agg #[.int .i64 r.os, .int .i64 r.orr, .int .i64 r.ls, .int .i64 r.lr, .int .i64 r.par]) ∧ Below w.heap.size w w' := by
  unfold startF at h
  by_cases h0 : seq < 0
  · rw [if_neg (by omega)] at h
    subst h
    go_enter Try.func17, Try.ntmps17
    go_wp2
    refine bodyPost_ret (v := .agg #[.int .i64 0, .int .i64 0, .int .i64 0, .int .i64 0, .int .i64 0]) (by simp [results, Try.results17, go_sem]) rfl ⟨rfl, ?_⟩
    exact ((Below.refl _ _).alloc (Nat.le_refl _) _)
  · by_cases h1 : 1000000000 < seq
    · rw [if_neg (by omega)] at h
      subst h
      go_enter Try.func17, Try.ntmps17
      go_wp2
      refine bodyPost_ret (v := .agg #[.int .i64 0, .int .i64 0, .int .i64 0, .int .i64 0, .int .i64 0]) (by simp [results, Try.results17, go_sem]) rfl ⟨rfl, ?_⟩
      exact ((Below.refl _ _).alloc (Nat.le_refl _) _)
    · rw [if_pos (by omega)] at h
      subst h
      cases root with
      | true =>
        go_enter Try.func17, Try.ntmps17
        go_wp2
        refine bodyPost_ret (v := .agg #[.int .i64 seq, .int .i64 0, .int .i64 seq, .int .i64 0, .int .i64 (-1)]) (by simp [results, Try.results17, go_sem]) rfl ⟨rfl, ?_⟩
        exact (((Below.refl _ _).alloc (Nat.le_refl _) _).alloc (by simp) _).alloc (by simp; omega) _
      | false =>
        go_enter Try.func17, Try.ntmps17
        go_wp2
        refine bodyPost_ret (v := .agg #[.int .i64 seq, .int .i64 1000000, .int .i64 seq, .int .i64 0, .int .i64 (-1)]) (by simp [results, Try.results17, go_sem]) rfl ⟨rfl, ?_⟩
        exact (((Below.refl _ _).alloc (Nat.le_refl _) _).alloc (by simp) _).alloc (by simp; omega) _

theorem feasible_is (o r l k p s x : Int) (v : Bool) (w : World) (h : v = feasB ⟨o, r, l, k, p⟩ s x) :
    Calls Try.prog 22 #[.agg #[.int .i64 o, .int .i64 r, .int .i64 l, .int .i64 k, .int .i64 p], .agg #[.int .i64 s, .int .i64 x]] w fun e w' => e = .returned (.bool v) ∧ Below w.heap.size w w' := by
  unfold feasB at h
  by_cases h0 : x < 1000000
  · rw [decide_eq_true h0, Bool.true_and] at h
    have H := Lib.hid h
    clear h
    go_enter Try.func22, Try.ntmps22
    go_wp2_with fail
    (with_reducible refine (better_is s x l k v _ H.out).mono ?_)
    rintro e w1 ⟨rfl, hb⟩
    go_wp2
    go_ret
    exact ⟨rfl, below_next hb (((Below.refl _ _).alloc (Nat.le_refl _) _).alloc (by simp) _) (by simp; omega)⟩
  · rw [decide_eq_false h0, Bool.false_and] at h
    subst h
    go_enter Try.func22, Try.ntmps22
    go_wp2
    go_ret
    exact ⟨rfl, ((Below.refl _ _).alloc (Nat.le_refl _) _).alloc (by simp) _⟩

end Go.Proofs.Ytefnjhdmpnfacaa
