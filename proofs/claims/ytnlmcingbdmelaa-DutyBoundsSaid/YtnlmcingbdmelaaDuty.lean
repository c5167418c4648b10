/- Contracts of package duty and of its reference: what each function returns, for every integer. -/
import Derived.Test.YtnlmcingbdmelaaBase
import Derived.WalkKit
import Derived.ProofKit
import Derived.Lib.Hide
namespace Go.Proofs.Ytnlmcingbdmelaa
open Go.RowKit

/-- within of one number: 'low ≤ x ≤ high'. -/
theorem within_one (lo hi x : Int) (w : World) (b : Nat) (r : Bool) (hr : r = decide (lo ≤ x ∧ x ≤ hi)) (hc : w.cell? ⟨b, 0, none⟩ = some (.int .i64 x)) :
    Calls Try.prog 20 #[.int .i64 lo, .int .i64 hi, .slice (some ⟨b, 0, none⟩) 1 1] w fun e w' => e = .returned (.bool r) ∧ w = w' := by
  by_cases h1 : x < lo
  · obtain rfl : r = false := by rw [hr]; exact decide_eq_false (by omega)
    clear hr
    go_enter Try.func20, Try.ntmps20
    go_wp2_with fail
    refine wp_loop_rounds 2 ?_
    rw [rounds_succ]
    go_wp2
    go_ret
    exact ⟨rfl, rfl⟩
  · by_cases h2 : hi < x
    · obtain rfl : r = false := by rw [hr]; exact decide_eq_false (by omega)
      clear hr
      go_enter Try.func20, Try.ntmps20
      go_wp2_with fail
      refine wp_loop_rounds 2 ?_
      rw [rounds_succ]
      go_wp2
      go_ret
      exact ⟨rfl, rfl⟩
    · obtain rfl : r = true := by rw [hr]; exact decide_eq_true (by omega)
      clear hr
      go_enter Try.func20, Try.ntmps20
      go_wp2_with fail
      refine wp_loop_rounds 2 ?_
      rw [rounds_succ]
      go_wp2
      rw [rounds_succ]
      go_wp2
      go_ret
      exact ⟨rfl, rfl⟩

theorem need1_any (n : Int) (w : World) (b : Nat) (r : Int) (hr : r = max 0 n) (hc : w.cell? ⟨b, 0, none⟩ = some (.int .i64 n)) :
    Calls Try.prog 17 #[.pointer (some ⟨b, 0, none⟩)] w fun e w' => e = .returned (.int .i64 r) ∧ w = w' := by
  by_cases h : 0 < n
  · obtain rfl : n = r := by omega
    clear hr
    go_enter Try.func17, Try.ntmps17
    go_wp2
    go_ret
    exact ⟨rfl, rfl⟩
  · obtain rfl : r = 0 := by omega
    clear hr
    go_enter Try.func17, Try.ntmps17
    go_wp2
    go_ret
    exact ⟨rfl, rfl⟩

theorem within_yes (lo hi x : Int) (w : World) (b : Nat) (h1 : lo ≤ x) (h2 : x ≤ hi) (hc : w.cell? ⟨b, 0, none⟩ = some (.int .i64 x)) :
    Calls Try.prog 20 #[.int .i64 lo, .int .i64 hi, .slice (some ⟨b, 0, none⟩) 1 1] w fun e w' => e = .returned (.bool true) ∧ w = w' :=
  within_one lo hi x w b true (decide_eq_true ⟨h1, h2⟩).symm hc

theorem within_no (lo hi x : Int) (w : World) (b : Nat) (h : x < lo ∨ hi < x) (hc : w.cell? ⟨b, 0, none⟩ = some (.int .i64 x)) :
    Calls Try.prog 20 #[.int .i64 lo, .int .i64 hi, .slice (some ⟨b, 0, none⟩) 1 1] w fun e w' => e = .returned (.bool false) ∧ w = w' :=
  within_one lo hi x w b false (decide_eq_false (by omega)).symm hc

/-- How many cells some waiting readings need. -/
def want (n : Int) : Int := min 6 ((n + 1) / 2)

theorem missing_yes (n c : Int) (w : World) (r : Int) (hr : r = want n - c) (h0 : 0 ≤ n) (h1 : n ≤ 16) (h2 : 0 ≤ c) (h3 : c ≤ 24) :
    Calls Try.prog 15 #[.int .i64 n, .int .i64 c] w fun e w' => e = .returned (.tuple #[.int .i64 r, .bool true]) ∧ Below w.heap.size w w' := by
  unfold want at hr
  by_cases h : (n + 1) / 2 < 6
  · obtain rfl : r = (n + 1) / 2 - c := by omega
    clear hr
    go_enter Try.func15, Try.ntmps15
    go_wp2_with (go_at_call 20; (with_reducible first | refine (within_yes 0 16 n _ _ h0 h1 (by simp)).mono ?_ | refine (within_yes 0 24 c _ _ h2 h3 (by simp)).mono ?_); rintro e w' ⟨rfl, rfl⟩)
    go_ret2
    exact ⟨rfl, ((Below.refl _ _).alloc (Nat.le_refl _) _).alloc (by simp) _⟩
  · obtain rfl : r = 6 - c := by omega
    clear hr
    go_enter Try.func15, Try.ntmps15
    go_wp2_with (go_at_call 20; (with_reducible first | refine (within_yes 0 16 n _ _ h0 h1 (by simp)).mono ?_ | refine (within_yes 0 24 c _ _ h2 h3 (by simp)).mono ?_); rintro e w' ⟨rfl, rfl⟩)
    go_ret2
    exact ⟨rfl, ((Below.refl _ _).alloc (Nat.le_refl _) _).alloc (by simp) _⟩

def SomeMiss (w : World) (e : Ending) (w' : World) : Prop := ∃ r : Int, e = .returned (.tuple #[.int .i64 r, .bool false]) ∧ Below w.heap.size w w'

theorem missing_no (n c : Int) (w : World) (h : n < 0 ∨ 16 < n ∨ c < 0 ∨ 24 < c) :
    Calls Try.prog 15 #[.int .i64 n, .int .i64 c] w (SomeMiss w) := by
  by_cases h1 : n < 0 ∨ 16 < n
  · have H := Lib.hid h1
    clear h h1
    go_enter Try.func15, Try.ntmps15
    go_wp2_with (go_at_call 20; (with_reducible refine (within_no 0 16 n _ _ H.out (by simp)).mono ?_); rintro e w' ⟨rfl, rfl⟩)
    all_goals
      go_ret2
      exact ⟨_, rfl, ((Below.refl _ _).alloc (Nat.le_refl _) _)⟩
  · have h0 : 0 ≤ n := by omega
    have h0' : n ≤ 16 := by omega
    have h2 : c < 0 ∨ 24 < c := by omega
    have H := Lib.hid h2
    clear h h1 h2
    go_enter Try.func15, Try.ntmps15
    go_wp2_with (go_at_call 20; (with_reducible first | refine (within_yes 0 16 n _ _ h0 h0' (by simp)).mono ?_ | refine (within_no 0 24 c _ _ H.out (by simp)).mono ?_); rintro e w' ⟨rfl, rfl⟩)
    all_goals
      go_ret2
      exact ⟨_, rfl, ((Below.refl _ _).alloc (Nat.le_refl _) _).alloc (by simp) _⟩


/-- What Need returns. -/
def needF (n c : Int) (full : Bool) : Int := if (0 ≤ n ∧ n ≤ 16 ∧ 0 ≤ c ∧ c ≤ 24) ∧ full = false then max 0 (want n - c) else 0

theorem need_any (n c : Int) (full : Bool) (w : World) :
    Calls Try.prog 10 #[.int .i64 n, .int .i64 c, .bool full] w fun e w' => e = .returned (.int .i64 (needF n c full)) ∧ Below w.heap.size w w' := by
  have hmf : ∀ (fn : Fn) (first cap : Array Value) (w : World), (Instr.makeFunc fn first cap).run Try.prog w = .ok (.func fn first cap) w := fun _ _ _ _ => rfl
  by_cases h : 0 ≤ n ∧ n ≤ 16 ∧ 0 ≤ c ∧ c ≤ 24
  · obtain ⟨h0, h1, h2, h3⟩ := h
    obtain ⟨m, hm⟩ : ∃ m, m = want n - c := ⟨_, rfl⟩
    cases full with
    | false =>
      obtain ⟨r, hr⟩ : ∃ r, r = needF n c false := ⟨_, rfl⟩
      have hr' : r = max 0 m := by rw [hr, hm, needF, if_pos ⟨⟨h0, h1, h2, h3⟩, rfl⟩]
      rw [← hr]
      have H := Lib.hid hm
      have H' := Lib.hid hr'
      clear hr hr' hm
      go_enter Try.func10, Try.ntmps10
      go_wp2_with (first | (go_at_call 15; (with_reducible refine (missing_yes n c _ m H.out h0 h1 h2 h3).mono ?_); rintro e w' ⟨rfl, hb⟩) | (go_at_call 16; go_in) | (go_at_call 17; (with_reducible refine (need1_any m _ _ r H'.out (by simp)).mono ?_); rintro e w' ⟨rfl, rfl⟩))
      go_ret
      exact ⟨rfl, hb.alloc hb.size _⟩
    | true =>
      have hr : needF n c true = 0 := by rw [needF, if_neg (by simp)]
      rw [hr]
      have H := Lib.hid hm
      clear hr hm
      go_enter Try.func10, Try.ntmps10
      go_wp2_with (first | (go_at_call 15; (with_reducible refine (missing_yes n c _ m H.out h0 h1 h2 h3).mono ?_); rintro e w' ⟨rfl, hb⟩) | (go_at_call 16; go_in))
      go_ret
      exact ⟨rfl, hb.alloc hb.size _⟩
  · have hr : needF n c full = 0 := by rw [needF, if_neg (fun k => h k.1)]
    have h' : n < 0 ∨ 16 < n ∨ c < 0 ∨ 24 < c := by omega
    rw [hr]
    have H := Lib.hid h'
    clear hr h h'
    go_enter Try.func10, Try.ntmps10
    go_wp2_with (first | (go_at_call 15; (with_reducible refine (missing_no n c _ H.out).mono ?_); rintro e w' ⟨m, rfl, hb⟩) | (go_at_call 16; go_in))
    go_ret
    exact ⟨rfl, hb.alloc hb.size _⟩

theorem spare1_any (n : Int) (w : World) (b : Nat) (r : Int) (hr : r = max 0 (-n)) (hb0 : -100 ≤ n) (hb1 : n ≤ 100) (hc : w.cell? ⟨b, 0, none⟩ = some (.int .i64 n)) :
    Calls Try.prog 19 #[.pointer (some ⟨b, 0, none⟩)] w fun e w' => e = .returned (.int .i64 r) ∧ w = w' := by
  by_cases h : n < 0
  · obtain rfl : r = -n := by omega
    clear hr
    go_enter Try.func19, Try.ntmps19
    go_wp2
    go_ret
    exact ⟨rfl, rfl⟩
  · obtain rfl : r = 0 := by omega
    clear hr
    go_enter Try.func19, Try.ntmps19
    go_wp2
    go_ret
    exact ⟨rfl, rfl⟩

/-- What Spare returns. -/
def spareF (n c idle : Int) : Int := if (0 ≤ n ∧ n ≤ 16 ∧ 0 ≤ c ∧ c ≤ 24) ∧ 4 ≤ idle then max 0 (-(want n - c)) else 0

theorem spare_any (n c idle : Int) (w : World) :
    Calls Try.prog 12 #[.int .i64 n, .int .i64 c, .int .i64 idle] w fun e w' => e = .returned (.int .i64 (spareF n c idle)) ∧ Below w.heap.size w w' := by
  have hmf : ∀ (fn : Fn) (first cap : Array Value) (w : World), (Instr.makeFunc fn first cap).run Try.prog w = .ok (.func fn first cap) w := fun _ _ _ _ => rfl
  by_cases h : 0 ≤ n ∧ n ≤ 16 ∧ 0 ≤ c ∧ c ≤ 24
  · obtain ⟨h0, h1, h2, h3⟩ := h
    obtain ⟨m, hm⟩ : ∃ m, m = want n - c := ⟨_, rfl⟩
    have hm1 : -100 ≤ m := by unfold want at hm; omega
    have hm2 : m ≤ 100 := by unfold want at hm; omega
    by_cases hi : 4 ≤ idle
    · obtain ⟨r, hr⟩ : ∃ r, r = spareF n c idle := ⟨_, rfl⟩
      have hr' : r = max 0 (-m) := by rw [hr, hm, spareF, if_pos ⟨⟨h0, h1, h2, h3⟩, hi⟩]
      rw [← hr]
      have H := Lib.hid hm
      have H' := Lib.hid hr'
      clear hr hr' hm
      go_enter Try.func12, Try.ntmps12
      go_wp2_with (first | (go_at_call 15; (with_reducible refine (missing_yes n c _ m H.out h0 h1 h2 h3).mono ?_); rintro e w' ⟨rfl, hb⟩) | (go_at_call 16; go_in) | (go_at_call 19; (with_reducible refine (spare1_any m _ _ r H'.out hm1 hm2 (by simp)).mono ?_); rintro e w' ⟨rfl, rfl⟩))
      go_ret
      exact ⟨rfl, hb.alloc hb.size _⟩
    · have hr : spareF n c idle = 0 := by rw [spareF, if_neg (fun k => hi k.2)]
      rw [hr]
      have H := Lib.hid hm
      clear hr hm
      go_enter Try.func12, Try.ntmps12
      go_wp2_with (first | (go_at_call 15; (with_reducible refine (missing_yes n c _ m H.out h0 h1 h2 h3).mono ?_); rintro e w' ⟨rfl, hb⟩) | (go_at_call 16; go_in))
      go_ret
      exact ⟨rfl, hb.alloc hb.size _⟩
  · have hr : spareF n c idle = 0 := by rw [spareF, if_neg (fun k => h k.1)]
    have h' : n < 0 ∨ 16 < n ∨ c < 0 ∨ 24 < c := by omega
    rw [hr]
    have H := Lib.hid h'
    clear hr h h'
    go_enter Try.func12, Try.ntmps12
    go_wp2_with (first | (go_at_call 15; (with_reducible refine (missing_no n c _ H.out).mono ?_); rintro e w' ⟨m, rfl, hb⟩) | (go_at_call 16; go_in))
    go_ret
    exact ⟨rfl, hb.alloc hb.size _⟩

/-- Whether numbers are right. -/
def rightB (n c : Int) : Bool := decide (0 ≤ n ∧ n ≤ 16 ∧ 0 ≤ c ∧ c ≤ 24)

theorem right_any (n c : Int) (w : World) :
    Calls Try.prog 14 #[.int .i64 n, .int .i64 c] w fun e w' => e = .returned (.bool (rightB n c)) ∧ w = w' := by
  by_cases h : 0 ≤ n ∧ n ≤ 16 ∧ 0 ≤ c ∧ c ≤ 24
  · have hr : rightB n c = true := decide_eq_true h
    rw [hr]
    obtain ⟨h0, h1, h2, h3⟩ := h
    clear hr
    go_enter Try.func14, Try.ntmps14
    go_wp2
    go_ret
    exact ⟨rfl, rfl⟩
  · have hr : rightB n c = false := decide_eq_false h
    rw [hr]
    clear hr
    by_cases h0 : n < 0
    · clear h
      go_enter Try.func14, Try.ntmps14
      go_wp2
      go_ret
      exact ⟨rfl, rfl⟩
    · by_cases h1 : 16 < n
      · clear h
        go_enter Try.func14, Try.ntmps14
        go_wp2
        go_ret
        exact ⟨rfl, rfl⟩
      · by_cases h2 : c < 0
        · clear h
          go_enter Try.func14, Try.ntmps14
          go_wp2
          go_ret
          exact ⟨rfl, rfl⟩
        · have h3 : decide (c ≤ 24) = false := decide_eq_false (by omega)
          clear h
          go_enter Try.func14, Try.ntmps14
          go_wp2
          go_ret
          exact ⟨rfl, rfl⟩

theorem wanted_any (n : Int) (w : World) (r : Int) (hr : r = want n) (h0 : 0 ≤ n) (h1 : n ≤ 16) :
    Calls Try.prog 18 #[.int .i64 n] w fun e w' => e = .returned (.int .i64 r) ∧ w = w' := by
  unfold want at hr
  by_cases h : (n + 1) / 2 < 6
  · obtain rfl : r = (n + 1) / 2 := by omega
    clear hr
    go_enter Try.func18, Try.ntmps18
    go_wp2
    go_ret
    exact ⟨rfl, rfl⟩
  · obtain rfl : r = 6 := by omega
    clear hr
    go_enter Try.func18, Try.ntmps18
    go_wp2
    go_ret
    exact ⟨rfl, rfl⟩

theorem rneed_any (n c : Int) (full : Bool) (w : World) :
    Calls Try.prog 11 #[.int .i64 n, .int .i64 c, .bool full] w fun e w' => e = .returned (.int .i64 (needF n c full)) ∧ w = w' := by
  by_cases h : 0 ≤ n ∧ n ≤ 16 ∧ 0 ≤ c ∧ c ≤ 24
  · have hR : rightB n c = true := decide_eq_true h
    obtain ⟨m, hm⟩ : ∃ m, m = want n := ⟨_, rfl⟩
    cases full with
    | true =>
      have hr : needF n c true = 0 := by rw [needF, if_neg (by simp)]
      rw [hr]
      clear hr hm
      go_enter Try.func11, Try.ntmps11
      go_wp2_with (first | (go_at_call 14; (with_reducible refine (right_any n c _).mono ?_); rintro e w' ⟨rfl, rfl⟩))
      go_ret
      exact ⟨rfl, rfl⟩
    | false =>
      have hr : needF n c false = max 0 (m - c) := by rw [needF, if_pos ⟨h, rfl⟩, hm]
      obtain ⟨h0, h1, h2, h3⟩ := h
      have hm1 : 0 ≤ m := by unfold want at hm; omega
      have hm2 : m ≤ 6 := by unfold want at hm; omega
      have H := Lib.hid hm
      by_cases hc : m < c
      · have hr' : needF n c false = 0 := by rw [hr]; omega
        rw [hr']
        clear hr hr' hm
        go_enter Try.func11, Try.ntmps11
        go_wp2_with (first | (go_at_call 14; (with_reducible refine (right_any n c _).mono ?_); rintro e w' ⟨rfl, rfl⟩) | (go_at_call 18; (with_reducible refine (wanted_any n _ m H.out h0 h1).mono ?_); rintro e w' ⟨rfl, rfl⟩))
        go_ret
        exact ⟨rfl, rfl⟩
      · have hr' : needF n c false = m - c := by rw [hr]; omega
        rw [hr']
        clear hr hr' hm
        go_enter Try.func11, Try.ntmps11
        go_wp2_with (first | (go_at_call 14; (with_reducible refine (right_any n c _).mono ?_); rintro e w' ⟨rfl, rfl⟩) | (go_at_call 18; (with_reducible refine (wanted_any n _ m H.out h0 h1).mono ?_); rintro e w' ⟨rfl, rfl⟩))
        go_ret
        exact ⟨rfl, rfl⟩
  · have hR : rightB n c = false := decide_eq_false h
    have hr : needF n c full = 0 := by rw [needF, if_neg (fun k => h k.1)]
    rw [hr]
    clear hr h
    go_enter Try.func11, Try.ntmps11
    go_wp2_with (first | (go_at_call 14; (with_reducible refine (right_any n c _).mono ?_); rintro e w' ⟨rfl, rfl⟩))
    go_ret
    exact ⟨rfl, rfl⟩

theorem rspare_any (n c idle : Int) (w : World) :
    Calls Try.prog 13 #[.int .i64 n, .int .i64 c, .int .i64 idle] w fun e w' => e = .returned (.int .i64 (spareF n c idle)) ∧ w = w' := by
  by_cases h : 0 ≤ n ∧ n ≤ 16 ∧ 0 ≤ c ∧ c ≤ 24
  · have hR : rightB n c = true := decide_eq_true h
    obtain ⟨m, hm⟩ : ∃ m, m = want n := ⟨_, rfl⟩
    by_cases hi : idle < 4
    · have hr : spareF n c idle = 0 := by rw [spareF, if_neg (fun k => by omega)]
      rw [hr]
      clear hr hm
      go_enter Try.func13, Try.ntmps13
      go_wp2_with (first | (go_at_call 14; (with_reducible refine (right_any n c _).mono ?_); rintro e w' ⟨rfl, rfl⟩))
      go_ret
      exact ⟨rfl, rfl⟩
    · have hr : spareF n c idle = max 0 (-(m - c)) := by rw [spareF, if_pos ⟨h, by omega⟩, hm]
      obtain ⟨h0, h1, h2, h3⟩ := h
      have hm1 : 0 ≤ m := by unfold want at hm; omega
      have hm2 : m ≤ 6 := by unfold want at hm; omega
      have H := Lib.hid hm
      by_cases hc : c < m
      · have hr' : spareF n c idle = 0 := by rw [hr]; omega
        rw [hr']
        clear hr hr' hm
        go_enter Try.func13, Try.ntmps13
        go_wp2_with (first | (go_at_call 14; (with_reducible refine (right_any n c _).mono ?_); rintro e w' ⟨rfl, rfl⟩) | (go_at_call 18; (with_reducible refine (wanted_any n _ m H.out h0 h1).mono ?_); rintro e w' ⟨rfl, rfl⟩))
        go_ret
        exact ⟨rfl, rfl⟩
      · have hr' : spareF n c idle = c - m := by rw [hr]; omega
        rw [hr']
        clear hr hr' hm
        go_enter Try.func13, Try.ntmps13
        go_wp2_with (first | (go_at_call 14; (with_reducible refine (right_any n c _).mono ?_); rintro e w' ⟨rfl, rfl⟩) | (go_at_call 18; (with_reducible refine (wanted_any n _ m H.out h0 h1).mono ?_); rintro e w' ⟨rfl, rfl⟩))
        go_ret
        exact ⟨rfl, rfl⟩
  · have hR : rightB n c = false := decide_eq_false h
    have hr : spareF n c idle = 0 := by rw [spareF, if_neg (fun k => h k.1)]
    rw [hr]
    clear hr h
    go_enter Try.func13, Try.ntmps13
    go_wp2_with (first | (go_at_call 14; (with_reducible refine (right_any n c _).mono ?_); rintro e w' ⟨rfl, rfl⟩))
    go_ret
    exact ⟨rfl, rfl⟩

end Go.Proofs.Ytnlmcingbdmelaa
