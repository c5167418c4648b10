/- Contracts of the two closures of Choose: is an offer possible; does one offer come before another. -/
import Derived.Test.YtefnjhdmpnfacaaMid
import Derived.Deep.DeepCutAuto
namespace Go.Proofs.Ytefnjhdmpnfacaa
open Go.RowKit Go.BigFrame

/-- A route in a block. -/
structure RAt (w : World) (b : Nat) (r : Rte) : Prop where
  lt : b < w.heap.size
  c0 : w.cell? ⟨b, 0, none⟩ = some (.int .i64 r.os)
  c1 : w.cell? ⟨b, 1, none⟩ = some (.int .i64 r.orr)
  c2 : w.cell? ⟨b, 2, none⟩ = some (.int .i64 r.ls)
  c3 : w.cell? ⟨b, 3, none⟩ = some (.int .i64 r.lr)
  c4 : w.cell? ⟨b, 4, none⟩ = some (.int .i64 r.par)

theorem RAt.below {w w' : World} {b : Nat} {r : Rte} (h : RAt w b r) (hb : Below w.heap.size w w') : RAt w' b r :=
  ⟨Nat.lt_of_lt_of_le h.lt hb.size, (hb.cell h.lt).trans h.c0, (hb.cell h.lt).trans h.c1, (hb.cell h.lt).trans h.c2, (hb.cell h.lt).trans h.c3, (hb.cell h.lt).trans h.c4⟩

theorem choose1_is (r : Rte) (p s k c : Int) (b : Nat) (v : Bool) (w : World) (hr : RAt w b r) (h : v = possB r ⟨p, s, k, c⟩) (b0 : 0 ≤ k) (b1 : k ≤ 1000000) (b2 : 1 ≤ c) (b3 : c ≤ 4096) :
    Calls Try.prog 36 #[.agg #[.int .i64 p, .int .i64 s, .int .i64 k, .int .i64 c], .pointer (some ⟨b, 0, none⟩)] w fun e w' => e = .returned (.bool v) ∧ Below w.heap.size w w' := by
  obtain ⟨lt, c0, c1, c2, c3, c4⟩ := hr
  have H := Lib.hid h
  clear h
  go_enter Try.func36, Try.ntmps36
  go_wp2_with fail
  (with_reducible refine (isPossible_is r p s k c v _ H.out b0 b1 b2 b3).mono ?_)
  rintro e w1 ⟨rfl, hb⟩
  have B1 := Lib.hid (below_next hb ((Below.refl w.heap.size w).alloc (Nat.le_refl _) _) (by simp))
  clear hb
  go_wp2
  go_ret
  exact ⟨rfl, B1.out⟩

theorem through_ex (p s k c : Int) (w : World) (b0 : 0 ≤ k) (b1 : k ≤ 1000000) (b2 : 1 ≤ c) (b3 : c ≤ 4096) :
    Calls Try.prog 40 #[.agg #[.int .i64 p, .int .i64 s, .int .i64 k, .int .i64 c]] w fun e w' => e = .returned (.agg #[.int .i64 s, .int .i64 (k + c)]) ∧
      (w.alloc (.cells #[.int .i64 p, .int .i64 s, .int .i64 k, .int .i64 c] 45)).alloc (.cells #[.int .i64 s, .int .i64 (k + c)] 41) = w' := by
  go_enter Try.func40, Try.ntmps40
  go_wp2
  refine bodyPost_ret (v := .agg #[.int .i64 s, .int .i64 (k + c)]) (by simp [results, Try.results40, go_sem]) rfl ⟨rfl, rfl⟩

/-- What the drawn statement of the second closure leaves: two distances in blocks of the call's own; the two offers still there. -/
structure Two (w wx : World) (g h : Nat) (p s k c q t l d : Int) : Prop where
  acc : Below w.heap.size w wx
  g0 : wx.cell? ⟨g, 0, none⟩ = some (.int .i64 s)
  g1 : wx.cell? ⟨g, 1, none⟩ = some (.int .i64 (k + c))
  h0 : wx.cell? ⟨h, 0, none⟩ = some (.int .i64 t)
  h1 : wx.cell? ⟨h, 1, none⟩ = some (.int .i64 (l + d))
  e0 : wx.cell? ⟨w.heap.size, 0, none⟩ = some (.int .i64 p)
  f0 : wx.cell? ⟨w.heap.size + 1, 0, none⟩ = some (.int .i64 q)
  lg : g < wx.heap.size
  lh : h < wx.heap.size
  le : w.heap.size < wx.heap.size
  lf : w.heap.size + 1 < wx.heap.size

theorem Two.below {w wx wy : World} {g h : Nat} {p s k c q t l d : Int} (x : Two w wx g h p s k c q t l d) (hb : Below wx.heap.size wx wy) : Two w wy g h p s k c q t l d :=
  ⟨below_next hb x.acc x.acc.size, (hb.cell x.lg).trans x.g0, (hb.cell x.lg).trans x.g1, (hb.cell x.lh).trans x.h0, (hb.cell x.lh).trans x.h1, (hb.cell x.le).trans x.e0, (hb.cell x.lf).trans x.f0,
    Nat.lt_of_lt_of_le x.lg hb.size, Nat.lt_of_lt_of_le x.lh hb.size, Nat.lt_of_lt_of_le x.le hb.size, Nat.lt_of_lt_of_le x.lf hb.size⟩

set_option maxHeartbeats 2000000 in
theorem choose2_is (p s k c q t l d : Int) (v : Bool) (w : World) (h : v = befB ⟨p, s, k, c⟩ ⟨q, t, l, d⟩) (b0 : 0 ≤ k) (b1 : k ≤ 1000000) (b2 : 1 ≤ c) (b3 : c ≤ 4096)
    (d0 : 0 ≤ l) (d1 : l ≤ 1000000) (d2 : 1 ≤ d) (d3 : d ≤ 4096) :
    Calls Try.prog 39 #[.agg #[.int .i64 p, .int .i64 s, .int .i64 k, .int .i64 c], .agg #[.int .i64 q, .int .i64 t, .int .i64 l, .int .i64 d]] w fun e w' => e = .returned (.bool v) ∧ Below w.heap.size w w' := by
  have H := Lib.hid h
  clear h
  go_enter Try.func39, Try.ntmps39
  go_upto_region 1 with fail
  go_cut [5, 6] (fun s5 s6 wx => ∃ g h : Nat, s5 = .pointer (some ⟨g, 0, none⟩) ∧ s6 = .pointer (some ⟨h, 0, none⟩) ∧ Two w wx g h p s k c q t l d)
  case first =>
    have B0 : Below w.heap.size w ((w.alloc (.cells #[.int .i64 p, .int .i64 s, .int .i64 k, .int .i64 c] 45)).alloc (.cells #[.int .i64 q, .int .i64 t, .int .i64 l, .int .i64 d] 45)) := ((Below.refl _ _).alloc (Nat.le_refl _) _).alloc (by simp) _
    have e0 : ((w.alloc (.cells #[.int .i64 p, .int .i64 s, .int .i64 k, .int .i64 c] 45)).alloc (.cells #[.int .i64 q, .int .i64 t, .int .i64 l, .int .i64 d] 45)).cell? ⟨w.heap.size, 0, none⟩ = some (.int .i64 p) := by simp
    have e1 : ((w.alloc (.cells #[.int .i64 p, .int .i64 s, .int .i64 k, .int .i64 c] 45)).alloc (.cells #[.int .i64 q, .int .i64 t, .int .i64 l, .int .i64 d] 45)).cell? ⟨w.heap.size, 1, none⟩ = some (.int .i64 s) := by simp
    have e2 : ((w.alloc (.cells #[.int .i64 p, .int .i64 s, .int .i64 k, .int .i64 c] 45)).alloc (.cells #[.int .i64 q, .int .i64 t, .int .i64 l, .int .i64 d] 45)).cell? ⟨w.heap.size, 2, none⟩ = some (.int .i64 k) := by simp
    have e3 : ((w.alloc (.cells #[.int .i64 p, .int .i64 s, .int .i64 k, .int .i64 c] 45)).alloc (.cells #[.int .i64 q, .int .i64 t, .int .i64 l, .int .i64 d] 45)).cell? ⟨w.heap.size, 3, none⟩ = some (.int .i64 c) := by simp
    have f0 : ((w.alloc (.cells #[.int .i64 p, .int .i64 s, .int .i64 k, .int .i64 c] 45)).alloc (.cells #[.int .i64 q, .int .i64 t, .int .i64 l, .int .i64 d] 45)).cell? ⟨w.heap.size + 1, 0, none⟩ = some (.int .i64 q) := by simp
    have f1 : ((w.alloc (.cells #[.int .i64 p, .int .i64 s, .int .i64 k, .int .i64 c] 45)).alloc (.cells #[.int .i64 q, .int .i64 t, .int .i64 l, .int .i64 d] 45)).cell? ⟨w.heap.size + 1, 1, none⟩ = some (.int .i64 t) := by simp
    have f2 : ((w.alloc (.cells #[.int .i64 p, .int .i64 s, .int .i64 k, .int .i64 c] 45)).alloc (.cells #[.int .i64 q, .int .i64 t, .int .i64 l, .int .i64 d] 45)).cell? ⟨w.heap.size + 1, 2, none⟩ = some (.int .i64 l) := by simp
    have f3 : ((w.alloc (.cells #[.int .i64 p, .int .i64 s, .int .i64 k, .int .i64 c] 45)).alloc (.cells #[.int .i64 q, .int .i64 t, .int .i64 l, .int .i64 d] 45)).cell? ⟨w.heap.size + 1, 3, none⟩ = some (.int .i64 d) := by simp
    have z0 : w.heap.size + 1 < ((w.alloc (.cells #[.int .i64 p, .int .i64 s, .int .i64 k, .int .i64 c] 45)).alloc (.cells #[.int .i64 q, .int .i64 t, .int .i64 l, .int .i64 d] 45)).heap.size := by simp
    generalize (w.alloc (.cells #[.int .i64 p, .int .i64 s, .int .i64 k, .int .i64 c] 45)).alloc (.cells #[.int .i64 q, .int .i64 t, .int .i64 l, .int .i64 d] 45) = W0 at *
    have hB := Lib.hid B0
    have z1 : w.heap.size < W0.heap.size := by omega
    clear B0
    go_region_held3 (fun W => Below W0.heap.size W0 W ∧ (W.cell? ⟨w.heap.size, 0, none⟩ = some (.int .i64 p) ∧ W.cell? ⟨w.heap.size, 1, none⟩ = some (.int .i64 s) ∧ W.cell? ⟨w.heap.size, 2, none⟩ = some (.int .i64 k) ∧ W.cell? ⟨w.heap.size, 3, none⟩ = some (.int .i64 c)) ∧
        (W.cell? ⟨w.heap.size + 1, 0, none⟩ = some (.int .i64 q) ∧ W.cell? ⟨w.heap.size + 1, 1, none⟩ = some (.int .i64 t) ∧ W.cell? ⟨w.heap.size + 1, 2, none⟩ = some (.int .i64 l) ∧ W.cell? ⟨w.heap.size + 1, 3, none⟩ = some (.int .i64 d)))
      ((refine (fun (K9 : Below W0.heap.size W0 _) => ⟨K9, ⟨(K9.cell z1).trans e0, (K9.cell z1).trans e1, (K9.cell z1).trans e2, (K9.cell z1).trans e3⟩, (K9.cell z0).trans f0, (K9.cell z0).trans f1, (K9.cell z0).trans f2, (K9.cell z0).trans f3⟩) ?_; repeat (first | exact Below.refl _ _ | refine Below.drew ?_ | refine Below.alloc ?_ (by simp; try omega) _)))
      (first
        | (go_at_call 40; (with_reducible first | refine (through_ex p s k c _ b0 b1 b2 b3).mono ?_ | refine (through_ex q t l d _ d0 d1 d2 d3).mono ?_); rintro e w' ⟨rfl, rfl⟩))
    all_goals
      go_wp2_with fail
      go_meet
      refine ⟨_, _, rfl, rfl, ?_⟩
      refine (fun (K9 : Below W0.heap.size W0 _) => ⟨below_next K9 hB.out hB.out.size, by simp [go_sem], by simp [go_sem], by simp [go_sem], by simp [go_sem], (K9.cell z1).trans e0, (K9.cell z0).trans f0, by simp; try omega, by simp; try omega, Nat.lt_of_lt_of_le z1 K9.size, Nat.lt_of_lt_of_le z0 K9.size⟩) ?_
      repeat (first | exact Below.refl _ _ | refine Below.drew ?_ | refine Below.alloc ?_ (by simp; try omega) _)
  case rest =>
    obtain ⟨g, h, rfl, rfl, T⟩ := hcut
    rcases Bool.eq_false_or_eq_true (betB s (k + c) t (l + d)) with h1 | h1
    · have hv : v = true := by rw [H.out, befB, h1]; rfl
      subst hv
      have H1 := Lib.hid h1.symm
      clear h1 H
      have u0 := T.g0
      have u1 := T.g1
      have u2 := T.h0
      have u3 := T.h1
      go_wp2_with fail
      (with_reducible refine (better_is s (k + c) t (l + d) true _ H1.out).mono ?_)
      rintro e w2 ⟨rfl, hb⟩
      have T2 := T.below hb
      clear u0 u1 u2 u3 hb T
      go_wp2
      go_ret
      exact ⟨rfl, T2.acc⟩
    · have hv : v = (decide (s = t ∧ k + c = l + d) && decide (p < q)) := by rw [H.out, befB, h1]; rfl
      have H1 := Lib.hid h1.symm
      clear h1 H
      by_cases h2 : s = t ∧ k + c = l + d
      · obtain ⟨h2, h3⟩ := h2
        subst h2
        obtain rfl : v = decide (p < q) := by rw [hv, decide_eq_true ⟨rfl, h3⟩]; rfl
        clear hv
        have H3 := Lib.hid h3
        have u0 := T.g0
        have u1 := T.g1
        have u2 := T.h0
        have u3 := T.h1
        rw [h3] at u1
        have H1' := Lib.hid (show false = betB s (l + d) s (l + d) from (bet_f (by omega)).symm)
        clear h3
        go_wp2_with fail
        (with_reducible refine (better_is s (l + d) s (l + d) false _ H1'.out).mono ?_)
        rintro e w2 ⟨rfl, hb⟩
        have T2 := T.below hb
        clear u0 u1 u2 u3 hb T
        have u0 := T2.g0
        have u1 := T2.g1
        have u2 := T2.h0
        have u3 := T2.h1
        have u4 := T2.e0
        have u5 := T2.f0
        rw [H3.out] at u1
        go_wp2
        go_ret
        exact ⟨rfl, T2.acc⟩
      · obtain rfl : v = false := by rw [hv, decide_eq_false h2]; rfl
        clear hv
        have u0 := T.g0
        have u1 := T.g1
        have u2 := T.h0
        have u3 := T.h1
        go_wp2_with fail
        (with_reducible refine (better_is s (k + c) t (l + d) false _ H1.out).mono ?_)
        rintro e w2 ⟨rfl, hb⟩
        have T2 := T.below hb
        clear u0 u1 u2 u3 hb T
        have u0 := T2.g0
        have u1 := T2.g1
        have u2 := T2.h0
        have u3 := T2.h1
        have hne : ((s == t) && (k + c == l + d)) = false := by
          simpa using fun a b => h2 ⟨a, b⟩
        go_wp2
        all_goals
          go_ret
          exact ⟨rfl, T2.acc⟩

end Go.Proofs.Ytefnjhdmpnfacaa
