/- Contracts of package rank's functions on one route and one or two offers. -/
import Derived.Test.YtefnjhdmpnfacaaLeaf
import Derived.Deep.RegionHeld3
namespace Go.Proofs.Ytefnjhdmpnfacaa
open Go.RowKit Go.BigFrame

theorem isRoute_is (o r l k p : Int) (v : Bool) (w : World) (h : v = rteB ⟨o, r, l, k, p⟩) :
    Calls Try.prog 34 #[.agg #[.int .i64 o, .int .i64 r, .int .i64 l, .int .i64 k, .int .i64 p]] w fun e w' => e = .returned (.bool v) ∧ Below w.heap.size w w' := by
  simp only [rteB] at h
  rcases Bool.eq_false_or_eq_true (dstB o r) with h1 | h1
  · rcases Bool.eq_false_or_eq_true (dstB l k) with h2 | h2
    · rcases Bool.eq_false_or_eq_true (betB o r l k) with h3 | h3
      · obtain rfl : v = false := by rw [h, h3]; simp
        have H1 := Lib.hid h1.symm
        have H2 := Lib.hid h2.symm
        have H3 := Lib.hid h3.symm
        clear h h1 h2 h3
        go_enter Try.func34, Try.ntmps34
        go_wp2_with (first
          | (go_at_call 42; (with_reducible first | refine (wvalid_is o r true _ H1.out).mono ?_ | refine (wvalid_is l k true _ H2.out).mono ?_); rintro e w' ⟨rfl, rfl⟩)
          | (go_at_call 41; (with_reducible refine (wbetter_is o r l k true _ H3.out).mono ?_); rintro e w' ⟨rfl, rfl⟩))
        go_ret
        exact ⟨rfl, by repeat (first | exact Below.refl _ _ | refine Below.alloc ?_ (by simp; try omega) _)⟩
      · have H1 := Lib.hid h1.symm
        have H2 := Lib.hid h2.symm
        have H3 := Lib.hid h3.symm
        rw [h1, h2, h3] at h
        simp only [Bool.true_and, Bool.not_false] at h
        clear h1 h2 h3
        by_cases h4 : -1 ≤ p
        · obtain rfl : v = decide (p < 60) := by rw [h]; exact decide_eq_decide.2 (by omega)
          clear h
          go_enter Try.func34, Try.ntmps34
          go_wp2_with (first
            | (go_at_call 42; (with_reducible first | refine (wvalid_is o r true _ H1.out).mono ?_ | refine (wvalid_is l k true _ H2.out).mono ?_); rintro e w' ⟨rfl, rfl⟩)
            | (go_at_call 41; (with_reducible refine (wbetter_is o r l k false _ H3.out).mono ?_); rintro e w' ⟨rfl, rfl⟩))
          go_ret
          exact ⟨rfl, by repeat (first | exact Below.refl _ _ | refine Below.alloc ?_ (by simp; try omega) _)⟩
        · obtain rfl : v = false := by rw [h]; exact decide_eq_false (by omega)
          clear h
          have h5 : decide (-1 ≤ p) = false := decide_eq_false h4
          clear h4
          go_enter Try.func34, Try.ntmps34
          go_wp2_with (first
            | (go_at_call 42; (with_reducible first | refine (wvalid_is o r true _ H1.out).mono ?_ | refine (wvalid_is l k true _ H2.out).mono ?_); rintro e w' ⟨rfl, rfl⟩)
            | (go_at_call 41; (with_reducible refine (wbetter_is o r l k false _ H3.out).mono ?_); rintro e w' ⟨rfl, rfl⟩))
          go_ret
          exact ⟨rfl, by repeat (first | exact Below.refl _ _ | refine Below.alloc ?_ (by simp; try omega) _)⟩
    · obtain rfl : v = false := by rw [h, h2]; simp
      have H1 := Lib.hid h1.symm
      have H2 := Lib.hid h2.symm
      clear h h1 h2
      go_enter Try.func34, Try.ntmps34
      go_wp2_with (first
        | (go_at_call 42; (with_reducible first | refine (wvalid_is o r true _ H1.out).mono ?_ | refine (wvalid_is l k false _ H2.out).mono ?_); rintro e w' ⟨rfl, rfl⟩))
      go_ret
      exact ⟨rfl, by repeat (first | exact Below.refl _ _ | refine Below.alloc ?_ (by simp; try omega) _)⟩
  · obtain rfl : v = false := by rw [h, h1]; simp
    have H1 := Lib.hid h1.symm
    clear h h1
    go_enter Try.func34, Try.ntmps34
    go_wp2_with (first
      | (go_at_call 42; (with_reducible refine (wvalid_is o r false _ H1.out).mono ?_); rintro e w' ⟨rfl, rfl⟩))
    go_ret
    exact ⟨rfl, by repeat (first | exact Below.refl _ _ | refine Below.alloc ?_ (by simp; try omega) _)⟩

theorem field1 (a b : Int) (w : World) : (Instr.field 41 (.agg #[.int .i64 a, .int .i64 b]) 1).run Try.prog w = .ok (.int .i64 b) w := by kernel_rfl

theorem isPossible_is (r : Rte) (p s k c : Int) (v : Bool) (w : World) (h : v = possB r ⟨p, s, k, c⟩) (b0 : 0 ≤ k) (b1 : k ≤ 1000000) (b2 : 1 ≤ c) (b3 : c ≤ 4096) :
    Calls Try.prog 37 #[.agg #[.int .i64 r.os, .int .i64 r.orr, .int .i64 r.ls, .int .i64 r.lr, .int .i64 r.par], .agg #[.int .i64 p, .int .i64 s, .int .i64 k, .int .i64 c]] w fun e w' => e = .returned (.bool v) ∧ Below w.heap.size w w' := by
  obtain ⟨o, rr, l, lr, par⟩ := r
  simp only [possB] at h ⊢
  have hfl := field1
  by_cases h0 : 1000000 ≤ k + c
  · obtain rfl : v = false := by rw [h, decide_eq_false (by omega)]; rfl
    clear h
    go_enter Try.func37, Try.ntmps37
    go_wp2_with fail
    (with_reducible refine (through_is p s k c _ b0 b1 b2 b3).mono ?_)
    rintro e w1 ⟨rfl, hb⟩
    go_wp2
    go_ret
    exact ⟨rfl, below_next hb (((Below.refl _ _).alloc (Nat.le_refl _) _).alloc (by simp) _) (by simp; omega)⟩
  · rw [decide_eq_true (by omega), Bool.true_and] at h
    rcases Bool.eq_false_or_eq_true (betB s k l lr) with h1 | h1
    · obtain rfl : v = true := by rw [h, h1]; rfl
      have H1 := Lib.hid h1.symm
      clear h h1
      go_enter Try.func37, Try.ntmps37
      go_wp2_with fail
      (with_reducible refine (through_is p s k c _ b0 b1 b2 b3).mono ?_)
      rintro e w1 ⟨rfl, hb⟩
      obtain ⟨hc, _⟩ := bcell hb
      have hz := hb.size
      simp at hz
      have z0 : w.heap.size < w1.heap.size := by omega
      have z1 : w.heap.size + 1 < w1.heap.size := by omega
      have B1 := Lib.hid (below_next hb (((Below.refl w.heap.size w).alloc (Nat.le_refl _) _).alloc (by simp) _) (by simp; omega))
      clear hb
      go_wp2_with fail
      (with_reducible refine (better_is s k l lr true _ H1.out).mono ?_)
      rintro e w2 ⟨rfl, hb⟩
      have B2 := Lib.hid (below_next hb B1.out B1.out.size)
      clear hb
      go_wp2
      go_ret
      exact ⟨rfl, B2.out⟩
    · rw [h1, Bool.false_or] at h
      have H1 := Lib.hid h1.symm
      clear h1
      by_cases h2 : p = par
      · obtain rfl : v = decide (o ≤ s) := by rw [h, decide_eq_true h2, Bool.true_and]
        subst h2
        clear h
        go_enter Try.func37, Try.ntmps37
        go_wp2_with fail
        (with_reducible refine (through_is p s k c _ b0 b1 b2 b3).mono ?_)
        rintro e w1 ⟨rfl, hb⟩
        obtain ⟨hc, _⟩ := bcell hb
        have hz := hb.size
        simp at hz
        have z0 : w.heap.size < w1.heap.size := by omega
        have z1 : w.heap.size + 1 < w1.heap.size := by omega
        have B1 := Lib.hid (below_next hb (((Below.refl w.heap.size w).alloc (Nat.le_refl _) _).alloc (by simp) _) (by simp; omega))
        clear hb
        go_wp2_with fail
        (with_reducible refine (better_is s k l lr false _ H1.out).mono ?_)
        rintro e w2 ⟨rfl, hb⟩
        obtain ⟨hc2, _⟩ := bcell hb
        have B2 := Lib.hid (below_next hb B1.out B1.out.size)
        clear hb
        go_wp2
        go_ret
        exact ⟨rfl, B2.out⟩
      · obtain rfl : v = false := by rw [h, decide_eq_false h2]; rfl
        have h3 : (p == par) = false := by simpa using h2
        clear h h2
        go_enter Try.func37, Try.ntmps37
        go_wp2_with fail
        (with_reducible refine (through_is p s k c _ b0 b1 b2 b3).mono ?_)
        rintro e w1 ⟨rfl, hb⟩
        obtain ⟨hc, _⟩ := bcell hb
        have hz := hb.size
        simp at hz
        have z0 : w.heap.size < w1.heap.size := by omega
        have z1 : w.heap.size + 1 < w1.heap.size := by omega
        have B1 := Lib.hid (below_next hb (((Below.refl w.heap.size w).alloc (Nat.le_refl _) _).alloc (by simp) _) (by simp; omega))
        clear hb
        go_wp2_with fail
        (with_reducible refine (better_is s k l lr false _ H1.out).mono ?_)
        rintro e w2 ⟨rfl, hb⟩
        obtain ⟨hc2, _⟩ := bcell hb
        have B2 := Lib.hid (below_next hb B1.out B1.out.size)
        clear hb
        go_wp2
        go_ret
        exact ⟨rfl, B2.out⟩

end Go.Proofs.Ytefnjhdmpnfacaa
