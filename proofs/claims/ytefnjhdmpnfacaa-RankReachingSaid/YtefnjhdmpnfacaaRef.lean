/- Contracts of the reference's small functions, and of Renew. -/
import Derived.Test.YtefnjhdmpnfacaaChoose
namespace Go.Proofs.Ytefnjhdmpnfacaa
open Go.RowKit

theorem rdist_is (s k : Int) (r : Bool) (w : World) (h : r = dstB s k) :
    Calls Try.prog 32 #[.agg #[.int .i64 s, .int .i64 k]] w fun e w' => e = .returned (.bool r) ∧ w.alloc (.cells #[.int .i64 s, .int .i64 k] 41) = w' := by
  unfold dstB at h
  by_cases h0 : s < 0
  · obtain rfl : r = false := by rw [h]; exact decide_eq_false (by omega)
    clear h
    go_enter Try.func32, Try.ntmps32
    go_wp2
    go_ret
    exact ⟨rfl, rfl⟩
  · by_cases h1 : 1000000000 < s
    · obtain rfl : r = false := by rw [h]; exact decide_eq_false (by omega)
      clear h
      go_enter Try.func32, Try.ntmps32
      go_wp2
      go_ret
      exact ⟨rfl, rfl⟩
    · by_cases h2 : k < 0
      · obtain rfl : r = false := by rw [h]; exact decide_eq_false (by omega)
        clear h
        go_enter Try.func32, Try.ntmps32
        go_wp2
        go_ret
        exact ⟨rfl, rfl⟩
      · obtain rfl : r = decide (k ≤ 1000000) := by rw [h]; exact decide_eq_decide.2 (by omega)
        clear h
        go_enter Try.func32, Try.ntmps32
        go_wp2
        go_ret
        exact ⟨rfl, rfl⟩

theorem rbetter_is (a x b y : Int) (r : Bool) (w : World) (h : r = betB a x b y) :
    Calls Try.prog 21 #[.agg #[.int .i64 a, .int .i64 x], .agg #[.int .i64 b, .int .i64 y]] w fun e w' => e = .returned (.bool r) ∧ (w.alloc (.cells #[.int .i64 a, .int .i64 x] 41)).alloc (.cells #[.int .i64 b, .int .i64 y] 41) = w' := by
  by_cases h1 : b < a
  · obtain rfl : r = true := by rw [h]; exact bet_t (.inl h1)
    clear h
    go_enter Try.func21, Try.ntmps21
    go_wp2
    go_ret
    exact ⟨rfl, rfl⟩
  · by_cases h2 : a = b
    · subst h2
      by_cases h3 : x < y
      · obtain rfl : r = true := by rw [h]; exact bet_t (.inr ⟨rfl, h3⟩)
        clear h
        go_enter Try.func21, Try.ntmps21
        go_wp2
        go_ret
        exact ⟨rfl, rfl⟩
      · obtain rfl : r = false := by rw [h]; exact bet_f (by omega)
        clear h
        have h4 : decide (x < y) = false := decide_eq_false h3
        go_enter Try.func21, Try.ntmps21
        go_wp2
        go_ret
        exact ⟨rfl, rfl⟩
    · obtain rfl : r = false := by rw [h]; exact bet_f (by omega)
      have h4 : (a == b) = false := by simpa using h2
      clear h h2
      go_enter Try.func21, Try.ntmps21
      go_wp2
      go_ret
      exact ⟨rfl, rfl⟩

theorem rvalid_is (o r l k p : Int) (v : Bool) (w : World) (h : v = rteB ⟨o, r, l, k, p⟩) :
    Calls Try.prog 15 #[.agg #[.int .i64 o, .int .i64 r, .int .i64 l, .int .i64 k, .int .i64 p]] w fun e w' => e = .returned (.bool v) ∧ Below w.heap.size w w' := by
  simp only [rteB] at h
  rcases Bool.eq_false_or_eq_true (dstB o r) with h1 | h1
  · rcases Bool.eq_false_or_eq_true (dstB l k) with h2 | h2
    · rcases Bool.eq_false_or_eq_true (betB o r l k) with h3 | h3
      · obtain rfl : v = false := by rw [h, h3]; simp
        have H1 := Lib.hid h1.symm
        have H2 := Lib.hid h2.symm
        have H3 := Lib.hid h3.symm
        clear h h1 h2 h3
        go_enter Try.func15, Try.ntmps15
        go_wp2_with (first
          | (go_at_call 32; (with_reducible first | refine (rdist_is o r true _ H1.out).mono ?_ | refine (rdist_is l k true _ H2.out).mono ?_); rintro e w' ⟨rfl, rfl⟩)
          | (go_at_call 21; (with_reducible refine (rbetter_is o r l k true _ H3.out).mono ?_); rintro e w' ⟨rfl, rfl⟩))
        go_ret
        exact ⟨rfl, by repeat (first | exact Below.refl _ _ | refine Below.alloc ?_ (by simp; try omega) _)⟩
      · have H1 := Lib.hid h1.symm
        have H2 := Lib.hid h2.symm
        have H3 := Lib.hid h3.symm
        rw [h1, h2, h3] at h
        simp only [Bool.true_and, Bool.not_false] at h
        clear h1 h2 h3
        by_cases h4 : -1 ≤ p
        · obtain rfl : v = decide (p < 60) := by rw [h]; exact decide_eq_decide.2 (by omega)
          clear h
          go_enter Try.func15, Try.ntmps15
          go_wp2_with (first
            | (go_at_call 32; (with_reducible first | refine (rdist_is o r true _ H1.out).mono ?_ | refine (rdist_is l k true _ H2.out).mono ?_); rintro e w' ⟨rfl, rfl⟩)
            | (go_at_call 21; (with_reducible refine (rbetter_is o r l k false _ H3.out).mono ?_); rintro e w' ⟨rfl, rfl⟩))
          go_ret
          exact ⟨rfl, by repeat (first | exact Below.refl _ _ | refine Below.alloc ?_ (by simp; try omega) _)⟩
        · obtain rfl : v = false := by rw [h]; exact decide_eq_false (by omega)
          clear h
          have h5 : decide (-1 ≤ p) = false := decide_eq_false h4
          clear h4
          go_enter Try.func15, Try.ntmps15
          go_wp2_with (first
            | (go_at_call 32; (with_reducible first | refine (rdist_is o r true _ H1.out).mono ?_ | refine (rdist_is l k true _ H2.out).mono ?_); rintro e w' ⟨rfl, rfl⟩)
            | (go_at_call 21; (with_reducible refine (rbetter_is o r l k false _ H3.out).mono ?_); rintro e w' ⟨rfl, rfl⟩))
          go_ret
          exact ⟨rfl, by repeat (first | exact Below.refl _ _ | refine Below.alloc ?_ (by simp; try omega) _)⟩
    · obtain rfl : v = false := by rw [h, h2]; simp
      have H1 := Lib.hid h1.symm
      have H2 := Lib.hid h2.symm
      clear h h1 h2
      go_enter Try.func15, Try.ntmps15
      go_wp2_with (first
        | (go_at_call 32; (with_reducible first | refine (rdist_is o r true _ H1.out).mono ?_ | refine (rdist_is l k false _ H2.out).mono ?_); rintro e w' ⟨rfl, rfl⟩))
      go_ret
      exact ⟨rfl, by repeat (first | exact Below.refl _ _ | refine Below.alloc ?_ (by simp; try omega) _)⟩
  · obtain rfl : v = false := by rw [h, h1]; simp
    have H1 := Lib.hid h1.symm
    clear h h1
    go_enter Try.func15, Try.ntmps15
    go_wp2_with (first
      | (go_at_call 32; (with_reducible refine (rdist_is o r false _ H1.out).mono ?_); rintro e w' ⟨rfl, rfl⟩))
    go_ret
    exact ⟨rfl, by repeat (first | exact Below.refl _ _ | refine Below.alloc ?_ (by simp; try omega) _)⟩

theorem rstart_is (root : Bool) (seq : Int) (r : Rte) (w : World) (h : r = startF root seq) :
    Calls Try.prog 20 #[.bool root, .int .i64 seq] w fun e w' => e = .returned (.agg #[.int .i64 r.os, .int .i64 r.orr, .int .i64 r.ls, .int .i64 r.lr, .int .i64 r.par]) ∧ Below w.heap.size w w' := by
  unfold startF at h
  by_cases h0 : seq < 0
  · rw [if_neg (by omega)] at h
    subst h
    go_enter Try.func20, Try.ntmps20
    go_wp2
    refine bodyPost_ret (v := .agg #[.int .i64 0, .int .i64 0, .int .i64 0, .int .i64 0, .int .i64 0]) (by simp [results, Try.results20, go_sem]) rfl ⟨rfl, ?_⟩
    exact ((Below.refl _ _).alloc (Nat.le_refl _) _)
  · by_cases h1 : 1000000000 < seq
    · rw [if_neg (by omega)] at h
      subst h
      go_enter Try.func20, Try.ntmps20
      go_wp2
      refine bodyPost_ret (v := .agg #[.int .i64 0, .int .i64 0, .int .i64 0, .int .i64 0, .int .i64 0]) (by simp [results, Try.results20, go_sem]) rfl ⟨rfl, ?_⟩
      exact ((Below.refl _ _).alloc (Nat.le_refl _) _)
    · rw [if_pos (by omega)] at h
      subst h
      cases root with
      | true =>
        go_enter Try.func20, Try.ntmps20
        go_wp2
        refine bodyPost_ret (v := .agg #[.int .i64 seq, .int .i64 0, .int .i64 seq, .int .i64 0, .int .i64 (-1)]) (by simp [results, Try.results20, go_sem]) rfl ⟨rfl, ?_⟩
        exact ((Below.refl _ _).alloc (Nat.le_refl _) _).alloc (by simp) _
      | false =>
        go_enter Try.func20, Try.ntmps20
        go_wp2
        refine bodyPost_ret (v := .agg #[.int .i64 seq, .int .i64 1000000, .int .i64 seq, .int .i64 0, .int .i64 (-1)]) (by simp [results, Try.results20, go_sem]) rfl ⟨rfl, ?_⟩
        exact ((Below.refl _ _).alloc (Nat.le_refl _) _).alloc (by simp) _

theorem rfeasible_is (o r l k p s x : Int) (v : Bool) (w : World) (h : v = feasB ⟨o, r, l, k, p⟩ s x) :
    Calls Try.prog 23 #[.agg #[.int .i64 o, .int .i64 r, .int .i64 l, .int .i64 k, .int .i64 p], .agg #[.int .i64 s, .int .i64 x]] w fun e w' => e = .returned (.bool v) ∧ Below w.heap.size w w' := by
  unfold feasB at h
  by_cases h0 : x < 1000000
  · rw [decide_eq_true h0, Bool.true_and] at h
    have H := Lib.hid h
    clear h
    go_enter Try.func23, Try.ntmps23
    go_wp2_with fail
    (with_reducible refine (rbetter_is s x l k v _ H.out).mono ?_)
    rintro e w1 ⟨rfl, rfl⟩
    go_wp2
    go_ret
    exact ⟨rfl, ((((Below.refl _ _).alloc (Nat.le_refl _) _).alloc (by simp) _).alloc (by simp; omega) _).alloc (by simp; omega) _⟩
  · rw [decide_eq_false h0, Bool.false_and] at h
    subst h
    go_enter Try.func23, Try.ntmps23
    go_wp2
    go_ret
    exact ⟨rfl, ((Below.refl _ _).alloc (Nat.le_refl _) _).alloc (by simp) _⟩

theorem roffer_is (p s k c : Int) (v : Bool) (w : World) (h : v = offB ⟨p, s, k, c⟩) :
    Calls Try.prog 33 #[.agg #[.int .i64 p, .int .i64 s, .int .i64 k, .int .i64 c]] w fun e w' => e = .returned (.bool v) ∧ Below w.heap.size w w' := by
  by_cases h0 : p < 0
  · obtain rfl : v = false := by rw [h]; exact off_f (by simp only; omega)
    clear h
    go_enter Try.func33, Try.ntmps33
    go_wp2
    go_ret
    exact ⟨rfl, (Below.refl _ _).alloc (Nat.le_refl _) _⟩
  · by_cases h1 : 60 ≤ p
    · obtain rfl : v = false := by rw [h]; exact off_f (by simp only; omega)
      have h2 : decide (p < 60) = false := decide_eq_false (by omega)
      clear h
      go_enter Try.func33, Try.ntmps33
      go_wp2
      go_ret
      exact ⟨rfl, (Below.refl _ _).alloc (Nat.le_refl _) _⟩
    · have h2 : decide (p < 60) = true := decide_eq_true (by omega)
      rcases Bool.eq_false_or_eq_true (dstB s k) with hd | hd
      · have HD := Lib.hid hd.symm
        have HB := Lib.hid (dst_bd hd)
        clear hd
        by_cases h3 : c < 1
        · obtain rfl : v = false := by rw [h]; exact off_f (by simp only; omega)
          have h5 : decide (1 ≤ c) = false := decide_eq_false (by omega)
          clear h h3
          go_enter Try.func33, Try.ntmps33
          go_wp2_with (go_at_call 32; (with_reducible refine (rdist_is s k true _ HD.out).mono ?_); rintro e w' ⟨rfl, rfl⟩)
          go_ret
          exact ⟨rfl, ((Below.refl _ _).alloc (Nat.le_refl _) _).alloc (by simp) _⟩
        · obtain rfl : v = decide (c ≤ 4096) := by
            rw [h, offB]
            refine decide_eq_decide.2 ⟨fun hh => hh.2.2.2.2, fun hh => ⟨by simp only; omega, by simp only; omega, HB.out, by simp only; omega, hh⟩⟩
          have h5 : decide (1 ≤ c) = true := decide_eq_true (by omega)
          clear h
          go_enter Try.func33, Try.ntmps33
          go_wp2_with (go_at_call 32; (with_reducible refine (rdist_is s k true _ HD.out).mono ?_); rintro e w' ⟨rfl, rfl⟩)
          go_ret
          exact ⟨rfl, ((Below.refl _ _).alloc (Nat.le_refl _) _).alloc (by simp) _⟩
      · obtain rfl : v = false := by rw [h]; exact off_f (fun hh => by have := dst_mk (s := s) (r := k) hh.2.2.1; rw [hd] at this; cases this)
        have HD := Lib.hid hd.symm
        clear hd h
        go_enter Try.func33, Try.ntmps33
        go_wp2_with (go_at_call 32; (with_reducible refine (rdist_is s k false _ HD.out).mono ?_); rintro e w' ⟨rfl, rfl⟩)
        go_ret
        exact ⟨rfl, ((Below.refl _ _).alloc (Nat.le_refl _) _).alloc (by simp) _⟩

end Go.Proofs.Ytefnjhdmpnfacaa
