/- Contracts of package ledger: what each function returns. -/
import Derived.Test.YthjaifdlnponcaaDoorExt
import Derived.Lib.Hide
import Derived.Deep.QuietTactic
import Derived.BigQuiet
namespace Go.Proofs.YthjaifdlnponcaaDoor
open Go.RowKit

/-- A ledger that is valid. -/
def validB (l s : Int) : Bool := decide (0 ≤ l ∧ l ≤ 1000000000 ∧ 0 ≤ s ∧ s ≤ 1000000000 ∧ l + s ≤ 1000000000)

theorem valid_any (l s : Int) (w : World) (v : Bool) (hv : v = validB l s) :
    Calls Tryd.prog 18 #[.agg #[.int .i64 l, .int .i64 s]] w fun e w' => e = .returned (.bool v) ∧ w.alloc (.cells #[.int .i64 l, .int .i64 s] 37) = w' := by
  unfold validB at hv
  by_cases h0 : l < 0
  · obtain rfl : v = false := by rw [hv]; exact decide_eq_false (by omega)
    clear hv
    by_cases hls : l < s
    all_goals
      go_enter Tryd.func18, Tryd.ntmps18
      go_wp2
      all_goals (go_ret; exact ⟨rfl, rfl⟩)
  · by_cases h1 : s < 0
    · obtain rfl : v = false := by rw [hv]; exact decide_eq_false (by omega)
      clear hv
      go_enter Tryd.func18, Tryd.ntmps18
      go_wp2
      all_goals (go_ret; exact ⟨rfl, rfl⟩)
    · by_cases hls : l < s
      · by_cases h2 : 1000000000 < s
        · obtain rfl : v = false := by rw [hv]; exact decide_eq_false (by omega)
          clear hv
          go_enter Tryd.func18, Tryd.ntmps18
          go_wp2
          all_goals (go_ret; exact ⟨rfl, rfl⟩)
        · by_cases h3 : 1000000000 < l + s
          · obtain rfl : v = false := by rw [hv]; exact decide_eq_false (by omega)
            clear hv
            have h4 : decide (l + s ≤ 1000000000) = false := decide_eq_false (by omega)
            go_enter Tryd.func18, Tryd.ntmps18
            go_wp2
            all_goals (go_ret; exact ⟨rfl, rfl⟩)
          · obtain rfl : v = true := by rw [hv]; exact decide_eq_true (by omega)
            clear hv
            have h4 : decide (l + s ≤ 1000000000) = true := decide_eq_true (by omega)
            go_enter Tryd.func18, Tryd.ntmps18
            go_wp2
            all_goals (go_ret; exact ⟨rfl, rfl⟩)
      · by_cases h2 : 1000000000 < l
        · obtain rfl : v = false := by rw [hv]; exact decide_eq_false (by omega)
          clear hv
          go_enter Tryd.func18, Tryd.ntmps18
          go_wp2
          all_goals (go_ret; exact ⟨rfl, rfl⟩)
        · by_cases h3 : 1000000000 < l + s
          · obtain rfl : v = false := by rw [hv]; exact decide_eq_false (by omega)
            clear hv
            have h4 : decide (l + s ≤ 1000000000) = false := decide_eq_false (by omega)
            go_enter Tryd.func18, Tryd.ntmps18
            go_wp2
            all_goals (go_ret; exact ⟨rfl, rfl⟩)
          · obtain rfl : v = true := by rw [hv]; exact decide_eq_true (by omega)
            clear hv
            have h4 : decide (l + s ≤ 1000000000) = true := decide_eq_true (by omega)
            go_enter Tryd.func18, Tryd.ntmps18
            go_wp2
            all_goals (go_ret; exact ⟨rfl, rfl⟩)

theorem rvalid_any (l s : Int) (w : World) (v : Bool) (hv : v = validB l s) :
    Calls Tryd.prog 16 #[.agg #[.int .i64 l, .int .i64 s]] w fun e w' => e = .returned (.bool v) ∧ w.alloc (.cells #[.int .i64 l, .int .i64 s] 23) = w' := by
  unfold validB at hv
  by_cases h0 : l < 0
  · obtain rfl : v = false := by rw [hv]; exact decide_eq_false (by omega)
    clear hv
    go_enter Tryd.func16, Tryd.ntmps16
    go_wp2
    all_goals (go_ret; exact ⟨rfl, rfl⟩)
  · by_cases h2 : 1000000000 < l
    · obtain rfl : v = false := by rw [hv]; exact decide_eq_false (by omega)
      clear hv
      go_enter Tryd.func16, Tryd.ntmps16
      go_wp2
      all_goals (go_ret; exact ⟨rfl, rfl⟩)
    · by_cases h1 : s < 0
      · obtain rfl : v = false := by rw [hv]; exact decide_eq_false (by omega)
        clear hv
        go_enter Tryd.func16, Tryd.ntmps16
        go_wp2
        all_goals (go_ret; exact ⟨rfl, rfl⟩)
      · by_cases h3 : 1000000000 - l < s
        · obtain rfl : v = false := by rw [hv]; exact decide_eq_false (by omega)
          clear hv
          have h4 : decide (s ≤ 1000000000 - l) = false := decide_eq_false (by omega)
          go_enter Tryd.func16, Tryd.ntmps16
          go_wp2
          all_goals (go_ret; exact ⟨rfl, rfl⟩)
        · obtain rfl : v = true := by rw [hv]; exact decide_eq_true (by omega)
          clear hv
          have h4 : decide (s ≤ 1000000000 - l) = true := decide_eq_true (by omega)
          go_enter Tryd.func16, Tryd.ntmps16
          go_wp2
          all_goals (go_ret; exact ⟨rfl, rfl⟩)

theorem covers_any (l s c : Int) (w : World) :
    Calls Tryd.prog 17 #[.agg #[.int .i64 l, .int .i64 s], .int .i64 c] w fun e w' => e = .returned (.bool (decide (c ≤ l))) ∧ w.alloc (.cells #[.int .i64 l, .int .i64 s] 37) = w' := by
  by_cases h : c ≤ l
  · have h1 : decide (c ≤ l) = true := decide_eq_true h
    rw [h1]
    go_enter Tryd.func17, Tryd.ntmps17
    go_wp2
    all_goals (go_ret; exact ⟨rfl, rfl⟩)
  · have h1 : decide (c ≤ l) = false := decide_eq_false h
    rw [h1]
    go_enter Tryd.func17, Tryd.ntmps17
    go_wp2
    all_goals (go_ret; exact ⟨rfl, rfl⟩)

/-- What was there when a call began is there behind it. -/
theorem bcell {W w1 : World} (hb : Below W.heap.size W w1) : (∀ b o, b < W.heap.size → w1.cell? ⟨b, o, none⟩ = W.cell? ⟨b, o, none⟩) ∧ (∀ b o, b < W.heap.size → w1.frozen? ⟨b, o, none⟩ = W.frozen? ⟨b, o, none⟩) :=
  ⟨fun b o h => hb.cell (p := ⟨b, o, none⟩) h, fun b o h => hb.frozen (p := ⟨b, o, none⟩) h⟩

theorem below_drewN {B : Nat} {a w : World} (h : Below B a w) (n : Nat) : Below B a (w.drewN n) := ⟨h.os, h.tape, h.output, h.size, h.block⟩

theorem below_next {B : Nat} {a W w1 : World} (hb : Below W.heap.size W w1) (h : Below B a W) (hB : B ≤ W.heap.size) : Below B a w1 := h.trans (hb.mono hB)

/-- What Spend returns: what is left, what is spent, the error. -/
def spendF (l s c : Int) : Int × Int × Int := if validB l s = true ∧ 0 ≤ c then (if c ≤ l then (l - c, s + c, 0) else (l, s, 15)) else (l, s, 1)

theorem valid_bd {l s : Int} (h : validB l s = true) : 0 ≤ l ∧ l ≤ 1000000000 ∧ 0 ≤ s ∧ s ≤ 1000000000 ∧ l + s ≤ 1000000000 := of_decide_eq_true h

theorem spend_is (l s c l' s' r : Int) (w : World) (h : (l', s', r) = spendF l s c) :
    Calls Tryd.prog 10 #[.agg #[.int .i64 l, .int .i64 s], .int .i64 c] w fun e w' => e = .returned (.tuple #[.agg #[.int .i64 l', .int .i64 s'], .int .i64 r]) ∧ Below w.heap.size w w' := by
  have hmf : ∀ (fn : Fn) (first cap : Array Value) (w : World), (Instr.makeFunc fn first cap).run Tryd.prog w = .ok (.func fn first cap) w := fun _ _ _ _ => rfl
  by_cases hv : validB l s = true
  · obtain ⟨b0, b1, b2, b3, b4⟩ := valid_bd hv
    by_cases hc : c < 0
    · rw [spendF, if_neg (by omega)] at h
      obtain ⟨rfl, rfl, rfl⟩ := h
      have H := Lib.hid hv.symm
      clear hv
      go_enter Tryd.func10, Tryd.ntmps10
      go_wp2_with (first | (go_at_call 18; (with_reducible refine (valid_any l s _ true H.out).mono ?_); rintro e w1 ⟨rfl, rfl⟩))
      refine bodyPost_ret (v := .tuple #[.agg #[.int .i64 l, .int .i64 s], .int .i64 1]) (by simp [results, Tryd.results10, go_sem]) rfl ⟨rfl, ?_⟩
      exact (((Below.refl _ _).alloc (Nat.le_refl _) _).alloc (by simp) _).alloc (by simp; omega) _
    · by_cases hl : c ≤ l
      · rw [spendF, if_pos ⟨hv, by omega⟩, if_pos hl] at h
        obtain ⟨rfl, rfl, rfl⟩ := h
        have hd : decide (c ≤ l) = true := decide_eq_true hl
        have H := Lib.hid hv.symm
        clear hv
        go_enter Tryd.func10, Tryd.ntmps10
        go_wp2_with (first | (go_at_call 18; (with_reducible refine (valid_any l s _ true H.out).mono ?_); rintro e w1 ⟨rfl, rfl⟩) | (go_at_call 17; (with_reducible refine (covers_any l s c _).mono ?_); rintro e w1 ⟨rfl, rfl⟩))
        refine bodyPost_ret (v := .tuple #[.agg #[.int .i64 (l - c), .int .i64 (s + c)], .int .i64 0]) (by simp [results, Tryd.results10, go_sem]) rfl ⟨rfl, ?_⟩
        exact ((((Below.refl _ _).alloc (Nat.le_refl _) _).alloc (by simp) _).alloc (by simp; omega) _).alloc (by simp; omega) _
      · rw [spendF, if_pos ⟨hv, by omega⟩, if_neg hl] at h
        obtain ⟨rfl, rfl, rfl⟩ := h
        have hd : decide (c ≤ l) = false := decide_eq_false hl
        have H := Lib.hid hv.symm
        clear hv
        go_enter Tryd.func10, Tryd.ntmps10
        go_wp2_with (first | (go_at_call 18; (with_reducible refine (valid_any l s _ true H.out).mono ?_); rintro e w1 ⟨rfl, rfl⟩) | (go_at_call 17; (with_reducible refine (covers_any l s c _).mono ?_); rintro e w1 ⟨rfl, rfl⟩))
        refine bodyPost_ret (v := .tuple #[.agg #[.int .i64 l, .int .i64 s], .int .i64 15]) (by simp [results, Tryd.results10, go_sem]) rfl ⟨rfl, ?_⟩
        exact ((((Below.refl _ _).alloc (Nat.le_refl _) _).alloc (by simp) _).alloc (by simp; omega) _).alloc (by simp; omega) _
  · rw [spendF, if_neg (fun k => hv k.1)] at h
    obtain ⟨rfl, rfl, rfl⟩ := h
    have hv : validB l s = false := by simpa using hv
    have H := Lib.hid hv.symm
    clear hv
    go_enter Tryd.func10, Tryd.ntmps10
    go_wp2_with (first | (go_at_call 18; (with_reducible refine (valid_any l s _ false H.out).mono ?_); rintro e w1 ⟨rfl, rfl⟩))
    refine bodyPost_ret (v := .tuple #[.agg #[.int .i64 l, .int .i64 s], .int .i64 1]) (by simp [results, Tryd.results10, go_sem]) rfl ⟨rfl, ?_⟩
    exact (((Below.refl _ _).alloc (Nat.le_refl _) _).alloc (by simp) _).alloc (by simp; omega) _

theorem rspend_is (l s c l' s' r : Int) (w : World) (h : (l', s', r) = spendF l s c) :
    Calls Tryd.prog 11 #[.agg #[.int .i64 l, .int .i64 s], .int .i64 c] w fun e w' => e = .returned (.tuple #[.agg #[.int .i64 l', .int .i64 s'], .int .i64 r]) ∧ Below w.heap.size w w' := by
  by_cases hv : validB l s = true
  · obtain ⟨b0, b1, b2, b3, b4⟩ := valid_bd hv
    by_cases hc : c < 0
    · rw [spendF, if_neg (by omega)] at h
      obtain ⟨rfl, rfl, rfl⟩ := h
      have H := Lib.hid hv.symm
      clear hv
      go_enter Tryd.func11, Tryd.ntmps11
      go_wp2_with (first | (go_at_call 16; (with_reducible refine (rvalid_any l s _ true H.out).mono ?_); rintro e w1 ⟨rfl, rfl⟩))
      refine bodyPost_ret (v := .tuple #[.agg #[.int .i64 l, .int .i64 s], .int .i64 1]) (by simp [results, Tryd.results11, go_sem]) rfl ⟨rfl, ?_⟩
      exact (((Below.refl _ _).alloc (Nat.le_refl _) _).alloc (by simp) _).alloc (by simp; omega) _
    · by_cases hl : c ≤ l
      · rw [spendF, if_pos ⟨hv, by omega⟩, if_pos hl] at h
        obtain ⟨rfl, rfl, rfl⟩ := h
        have H := Lib.hid hv.symm
        clear hv
        go_enter Tryd.func11, Tryd.ntmps11
        go_wp2_with (first | (go_at_call 16; (with_reducible refine (rvalid_any l s _ true H.out).mono ?_); rintro e w1 ⟨rfl, rfl⟩))
        refine bodyPost_ret (v := .tuple #[.agg #[.int .i64 (l - c), .int .i64 (s + c)], .int .i64 0]) (by simp [results, Tryd.results11, go_sem]) rfl ⟨rfl, ?_⟩
        exact (((Below.refl _ _).alloc (Nat.le_refl _) _).alloc (by simp) _).alloc (by simp; omega) _
      · rw [spendF, if_pos ⟨hv, by omega⟩, if_neg hl] at h
        obtain ⟨rfl, rfl, rfl⟩ := h
        have H := Lib.hid hv.symm
        clear hv
        go_enter Tryd.func11, Tryd.ntmps11
        go_wp2_with (first | (go_at_call 16; (with_reducible refine (rvalid_any l s _ true H.out).mono ?_); rintro e w1 ⟨rfl, rfl⟩))
        refine bodyPost_ret (v := .tuple #[.agg #[.int .i64 l, .int .i64 s], .int .i64 15]) (by simp [results, Tryd.results11, go_sem]) rfl ⟨rfl, ?_⟩
        exact (((Below.refl _ _).alloc (Nat.le_refl _) _).alloc (by simp) _).alloc (by simp; omega) _
  · rw [spendF, if_neg (fun k => hv k.1)] at h
    obtain ⟨rfl, rfl, rfl⟩ := h
    have hv : validB l s = false := by simpa using hv
    have H := Lib.hid hv.symm
    clear hv
    go_enter Tryd.func11, Tryd.ntmps11
    go_wp2_with (first | (go_at_call 16; (with_reducible refine (rvalid_any l s _ false H.out).mono ?_); rintro e w1 ⟨rfl, rfl⟩))
    refine bodyPost_ret (v := .tuple #[.agg #[.int .i64 l, .int .i64 s], .int .i64 1]) (by simp [results, Tryd.results11, go_sem]) rfl ⟨rfl, ?_⟩
    exact (((Below.refl _ _).alloc (Nat.le_refl _) _).alloc (by simp) _).alloc (by simp; omega) _

/-- The table of costs, as the program lays it. -/
def Laid (w : World) : Prop := 0 < w.heap.size ∧ w.cell? ⟨0, 0, none⟩ = some (.int .i64 1) ∧ w.cell? ⟨0, 1, none⟩ = some (.int .i64 40) ∧ w.cell? ⟨0, 2, none⟩ = some (.int .i64 60)

theorem Laid.below {w w' : World} (h : Laid w) (hb : Below w.heap.size w w') : Laid w' :=
  ⟨Nat.lt_of_lt_of_le h.1 hb.size, (hb.cell h.1).trans h.2.1, (hb.cell h.1).trans h.2.2.1, (hb.cell h.1).trans h.2.2.2⟩

/-- What a slot costs. -/
def costF (n : Int) : Int := if n = 0 then 1 else if n = 1 then 40 else if n = 2 then 60 else 0

theorem cost_is (n r : Int) (w : World) (hL : Laid w) (h : r = costF n) :
    Calls Tryd.prog 12 #[.int .i64 n] w fun e w' => e = .returned (.int .i64 r) ∧ w = w' := by
  obtain ⟨_, c0, c1, c2⟩ := hL
  by_cases h0 : n < 0
  · obtain rfl : r = 0 := by rw [h, costF, if_neg (by omega), if_neg (by omega), if_neg (by omega)]
    clear h c0 c1 c2
    go_enter Tryd.func12, Tryd.ntmps12
    go_wp2
    go_ret
    exact ⟨rfl, rfl⟩
  · by_cases h3 : 3 ≤ n
    · obtain rfl : r = 0 := by rw [h, costF, if_neg (by omega), if_neg (by omega), if_neg (by omega)]
      clear h c0 c1 c2
      go_enter Tryd.func12, Tryd.ntmps12
      go_wp2
      go_ret
      exact ⟨rfl, rfl⟩
    · have hn : n = 0 ∨ n = 1 ∨ n = 2 := by omega
      clear h0 h3
      rcases hn with rfl | rfl | rfl
      · obtain rfl : r = 1 := h
        go_enter Tryd.func12, Tryd.ntmps12
        go_wp2
        go_ret
        exact ⟨rfl, rfl⟩
      · obtain rfl : r = 40 := h
        go_enter Tryd.func12, Tryd.ntmps12
        go_wp2
        go_ret
        exact ⟨rfl, rfl⟩
      · obtain rfl : r = 60 := h
        go_enter Tryd.func12, Tryd.ntmps12
        go_wp2
        go_ret
        exact ⟨rfl, rfl⟩

theorem rcost_is (n r : Int) (w : World) (h : r = costF n) :
    Calls Tryd.prog 13 #[.int .i64 n] w fun e w' => e = .returned (.int .i64 r) ∧ w = w' := by
  by_cases h0 : n = 0
  · subst h0
    obtain rfl : r = 1 := h
    go_enter Tryd.func13, Tryd.ntmps13
    go_wp2
    go_ret
    exact ⟨rfl, rfl⟩
  · by_cases h1 : n = 1
    · subst h1
      obtain rfl : r = 40 := h
      go_enter Tryd.func13, Tryd.ntmps13
      go_wp2
      go_ret
      exact ⟨rfl, rfl⟩
    · by_cases h2 : n = 2
      · subst h2
        obtain rfl : r = 60 := h
        go_enter Tryd.func13, Tryd.ntmps13
        go_wp2
        go_ret
        exact ⟨rfl, rfl⟩
      · obtain rfl : r = 0 := by rw [h, costF, if_neg h0, if_neg h1, if_neg h2]
        clear h
        have g0 : (n == 0) = false := by simpa using h0
        have g1 : (n == 1) = false := by simpa using h1
        have g2 : (n == 2) = false := by simpa using h2
        clear h0 h1 h2
        go_enter Tryd.func13, Tryd.ntmps13
        go_wp2
        go_ret
        exact ⟨rfl, rfl⟩

/-- For how many slots a ledger lasts. -/
def lastsF (l s n : Int) : Int := if validB l s = true ∧ costF n ≠ 0 then l / costF n else 0

theorem cost_bd (n : Int) : costF n = 0 ∨ costF n = 1 ∨ costF n = 40 ∨ costF n = 60 := by
  unfold costF
  split
  · omega
  · split
    · omega
    · split <;> omega

theorem cost_q (n r : Int) (w : World) (hL : Laid w) (h : r = costF n) :
    Calls Tryd.prog 12 #[.int .i64 n] w fun e w' => e = .returned (.int .i64 r) ∧ w' = w := (cost_is n r w hL h).mono fun _ _ h => ⟨h.1, h.2.symm⟩

theorem rcost_q (n r : Int) (w : World) (h : r = costF n) :
    Calls Tryd.prog 13 #[.int .i64 n] w fun e w' => e = .returned (.int .i64 r) ∧ w' = w := (rcost_is n r w h).mono fun _ _ h => ⟨h.1, h.2.symm⟩

theorem Laid.drewN {w : World} (h : Laid w) (n : Nat) : Laid (w.drewN n) := h

theorem lasts_is (l s n r : Int) (w : World) (hL : Laid w) (h : r = lastsF l s n) :
    Calls Tryd.prog 14 #[.agg #[.int .i64 l, .int .i64 s], .int .i64 n] w fun e w' => e = .returned (.int .i64 r) ∧ Below w.heap.size w w' := by
  obtain ⟨c, hc⟩ : ∃ c, c = costF n := ⟨_, rfl⟩
  have cb := cost_bd n
  rw [← hc] at cb
  have HL := Lib.hid hL
  by_cases hv : validB l s = true
  · obtain ⟨b0, b1, b2, b3, b4⟩ := valid_bd hv
    have H := Lib.hid hv.symm
    by_cases hz : c = 0
    · obtain rfl : r = 0 := by rw [h, lastsF, if_neg (by rw [← hc]; exact fun k => k.2 hz)]
      subst hz
      have HC := Lib.hid hc
      clear hv hc h cb hL
      go_enter Tryd.func14, Tryd.ntmps14
      go_wp2_with (first | (go_at_call 18; (with_reducible refine (valid_any l s _ true H.out).mono ?_); rintro e w1 ⟨rfl, rfl⟩) | (go_at_call 12; (with_reducible refine (cost_is n 0 _ (Laid.below HL.out (by exact ((Below.refl _ _).alloc (Nat.le_refl _) _).alloc (by simp) _)) HC.out).mono ?_); rintro e w1 ⟨rfl, rfl⟩))
      go_ret
      exact ⟨rfl, ((Below.refl _ _).alloc (Nat.le_refl _) _).alloc (by simp) _⟩
    · obtain rfl : r = l / c := by rw [h, lastsF, if_pos ⟨hv, by rw [← hc]; exact hz⟩, hc]
      have c1 : 1 ≤ c := by omega
      have c2 : (c == 0) = false := by simpa using hz
      have c3 : ¬ c = 0 := hz
      have HC := Lib.hid hc
      clear hv hc h cb hL hz
      go_enter Tryd.func14, Tryd.ntmps14
      go_wp2_with (first | (go_at_call 18; (with_reducible refine (valid_any l s _ true H.out).mono ?_); rintro e w1 ⟨rfl, rfl⟩) | (go_at_call 12; (with_reducible refine (cost_is n c _ (Laid.below HL.out (by exact ((Below.refl _ _).alloc (Nat.le_refl _) _).alloc (by simp) _)) HC.out).mono ?_); rintro e w1 ⟨rfl, rfl⟩))
      go_quiet ((go_at_call 12; exact Calls.quiet_of_same (cost_q n c _ ((Laid.below HL.out (by exact ((Below.refl _ _).alloc (Nat.le_refl _) _).alloc (by simp) _)).drewN _) HC.out)))
      go_wp2
      go_ret
      exact ⟨rfl, below_drewN (((Below.refl _ _).alloc (Nat.le_refl _) _).alloc (by simp) _) _⟩
  · have hv : validB l s = false := by simpa using hv
    obtain rfl : r = 0 := by rw [h, lastsF, if_neg (by rw [hv]; simp)]
    have H := Lib.hid hv.symm
    clear hv h hc cb hL
    go_enter Tryd.func14, Tryd.ntmps14
    go_wp2_with (first | (go_at_call 18; (with_reducible refine (valid_any l s _ false H.out).mono ?_); rintro e w1 ⟨rfl, rfl⟩))
    go_ret
    exact ⟨rfl, ((Below.refl _ _).alloc (Nat.le_refl _) _).alloc (by simp) _⟩

theorem rlasts_is (l s n r : Int) (w : World) (h : r = lastsF l s n) :
    Calls Tryd.prog 15 #[.agg #[.int .i64 l, .int .i64 s], .int .i64 n] w fun e w' => e = .returned (.int .i64 r) ∧ Below w.heap.size w w' := by
  obtain ⟨c, hc⟩ : ∃ c, c = costF n := ⟨_, rfl⟩
  have cb := cost_bd n
  rw [← hc] at cb
  by_cases hv : validB l s = true
  · obtain ⟨b0, b1, b2, b3, b4⟩ := valid_bd hv
    have H := Lib.hid hv.symm
    by_cases hz : c = 0
    · obtain rfl : r = 0 := by rw [h, lastsF, if_neg (by rw [← hc]; exact fun k => k.2 hz)]
      subst hz
      have HC := Lib.hid hc
      clear hv hc h cb
      go_enter Tryd.func15, Tryd.ntmps15
      go_wp2_with (first | (go_at_call 16; (with_reducible refine (rvalid_any l s _ true H.out).mono ?_); rintro e w1 ⟨rfl, rfl⟩) | (go_at_call 13; (with_reducible refine (rcost_is n 0 _ HC.out).mono ?_); rintro e w1 ⟨rfl, rfl⟩))
      go_ret
      exact ⟨rfl, ((Below.refl _ _).alloc (Nat.le_refl _) _).alloc (by simp) _⟩
    · obtain rfl : r = l / c := by rw [h, lastsF, if_pos ⟨hv, by rw [← hc]; exact hz⟩, hc]
      have c1 : 1 ≤ c := by omega
      have c2 : (c == 0) = false := by simpa using hz
      have c3 : ¬ c = 0 := hz
      have HC := Lib.hid hc
      clear hv hc h cb hz
      go_enter Tryd.func15, Tryd.ntmps15
      go_wp2_with (first | (go_at_call 16; (with_reducible refine (rvalid_any l s _ true H.out).mono ?_); rintro e w1 ⟨rfl, rfl⟩) | (go_at_call 13; (with_reducible refine (rcost_is n c _ HC.out).mono ?_); rintro e w1 ⟨rfl, rfl⟩))
      go_quiet ((go_at_call 13; exact Calls.quiet_of_same (rcost_q n c _ HC.out)))
      go_wp2
      go_ret
      exact ⟨rfl, below_drewN (((Below.refl _ _).alloc (Nat.le_refl _) _).alloc (by simp) _) _⟩
  · have hv : validB l s = false := by simpa using hv
    obtain rfl : r = 0 := by rw [h, lastsF, if_neg (by rw [hv]; simp)]
    have H := Lib.hid hv.symm
    clear hv h hc cb
    go_enter Tryd.func15, Tryd.ntmps15
    go_wp2_with (first | (go_at_call 16; (with_reducible refine (rvalid_any l s _ false H.out).mono ?_); rintro e w1 ⟨rfl, rfl⟩))
    go_ret
    exact ⟨rfl, ((Below.refl _ _).alloc (Nat.le_refl _) _).alloc (by simp) _⟩

end Go.Proofs.YthjaifdlnponcaaDoor
