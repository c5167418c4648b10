/- Plain laws of RankReaching, third part: behind as many rounds as there are nodes, who is joined is led to the root. -/
import Derived.Test.YtefnjhdmpnfacaaReachRounds
namespace Go.Proofs.Ytefnjhdmpnfacaa.rankReaching
set_option linter.unusedVariables false

/-- The mesh behind some moves. -/
def after (n : Nat) (ms : List Mv) : St := ms.foldl (stepF n) startSt
def Top (n : Nat) (m : St) : Prop := ∀ i, i < n → (m.rs i).os ≤ (m.rs 0).os

theorem top_tell {n : Nat} {m : St} (h : Top n m) {i : Nat} {r : Rte} (h0 : i = 0 → (m.rs 0).os ≤ r.os) (h1 : i ≠ 0 → r.os ≤ (m.rs 0).os) : Top n (m.tell i r) := by
  intro j hj
  show (upd m.rs i r j).os ≤ (upd m.rs i r 0).os
  have := h j hj
  by_cases e0 : i = 0
  · subst e0
    have := h0 rfl
    rw [upd_same]
    by_cases ej : j = 0
    · subst ej; rw [upd_same]; exact Int.le_refl _
    · rw [upd_far _ _ ej]; omega
  · rw [upd_far _ _ (Ne.symm e0)]
    by_cases ej : j = i
    · subst ej; rw [upd_same]; exact h1 e0
    · rw [upd_far _ _ ej]; exact this

theorem top_step {n N : Nat} {m : St} (h : Inv n N m) (ht : Top n m) (hn : 0 < n) (hN : N ≤ 1000) (x : Mv) : Top n (stepF n m x) := by
  have hi := idx_lt hn x.node
  unfold stepF
  split
  · split
    · rename_i h0
      refine top_tell ht (fun e => by omega) (fun _ => ?_)
      rcases choose_two (h.valid _ hi) (h.offs hi) with ⟨_, h2⟩ | ⟨o, ho, _, _, h2⟩
      · rw [h2]; exact ht _ hi
      · obtain ⟨p, hp, _, _, hb⟩ := h.heard _ hi o ho
        have h3 := ht p hp
        have h4 := h.seq p hp
        rw [bet_nif] at hb
        rw [h2]
        unfold takeF
        split
        · simp only; omega
        · simp only; omega
    · exact ht
  · split
    · split
      · exact ht
      · exact ht
    · split
      · obtain ⟨⟨a0, a1, _⟩, _⟩ := rte_bd (h.valid _ hi)
        have e := start_rte (decide (idx n x.node = 0)) a0 a1
        refine top_tell ht (fun e0 => ?_) (fun _ => ?_)
        · rw [e]; simp only; rw [e0]; exact Int.le_refl _
        · rw [e]; exact ht _ hi
      · have e := (h.renew hn hN).1
        refine top_tell ht (fun _ => ?_) (fun e0 => absurd rfl e0)
        rw [e]; simp only; omega

theorem after_inv (n : Nat) (hn : 0 < n) (hn8 : n ≤ 60) (ms : List Mv) (hl : ms.length ≤ 900) : Inv n ms.length (after n ms) ∧ Top n (after n ms) := by
  have key : ∀ (ms : List Mv) (m : St) (N : Nat), Inv n N m → Top n m → N + ms.length ≤ 900 → Inv n (N + ms.length) (ms.foldl (stepF n) m) ∧ Top n (ms.foldl (stepF n) m) := by
    intro ms
    induction ms with
    | nil => intro m N h ht _; exact ⟨h, ht⟩
    | cons x ms ih =>
      intro m N h ht hl
      rw [List.length_cons] at hl
      have := ih (stepF n m x) (N + 1) (h.step hn hn8 (by omega) x) (top_step h ht hn (by omega) x) (by omega)
      rw [List.length_cons, show N + (ms.length + 1) = N + 1 + ms.length by omega]
      exact this
  have hs : Top n startSt := fun i _ => by
    show (startF (decide (i = 0)) 0).os ≤ (startF (decide (0 = 0)) 0).os
    rw [start_rte _ (by omega) (by omega), start_rte _ (by omega) (by omega)]
    exact Int.le_refl _
  have := key ms startSt 0 (Inv.start n) hs (by omega)
  rwa [Nat.zero_add] at this
theorem after_step (n : Nat) {ms : List Mv} {k : Nat} {x : Mv} (h : ms[k]? = some x) : after n (ms.take (k + 1)) = stepF n (after n (ms.take k)) x := by
  unfold after
  rw [List.take_add_one, h, List.foldl_append]
  rfl

/-- The first k nodes forget what they have heard. -/
def forgetTo (m : St) : Nat → St
  | 0 => m
  | k + 1 => (forgetTo m k).forget k
theorem forget_all {n N : Nat} {m : St} (h : Inv n N m) : ∀ k, Inv n N (forgetTo m k) ∧ (forgetTo m k).rs = m.rs ∧ (forgetTo m k).told = m.told ∧ ∀ i, i < k → (forgetTo m k).heard i = []
  | 0 => ⟨h, rfl, rfl, fun i hi => by omega⟩
  | k + 1 => by
    obtain ⟨h1, h2, h3, h4⟩ := forget_all h k
    refine ⟨h1.forget k, h2, h3, fun i hi => ?_⟩
    show upd (forgetTo m k).heard k [] i = []
    by_cases e : i = k
    · subst e; rw [upd_same]
    · rw [upd_far _ _ e]; exact h4 i (by omega)

/-- The root takes a new number. -/
def renewed (n : Nat) (ms : List Mv) : St := (forgetTo (after n ms) n).tell 0 (renewF ((forgetTo (after n ms) n).rs 0) (((forgetTo (after n ms) n).rs 0).os + 1))
/-- Behind t rounds. -/
def mT (n : Nat) (ls : List (Int × Int)) (ms : List Mv) : Nat → St
  | 0 => renewed n ms
  | t + 1 => roundF n ls (mT n ls ms t)
def jT (n : Nat) (ls : List (Int × Int)) : Nat → Nat → Bool
  | 0 => fun i => decide (i = 0)
  | t + 1 => ls.foldl (jlink n) (jT n ls t)

def numS (n : Nat) (ms : List Mv) : Int := ((after n ms).rs 0).os + 1

theorem ri_start {n : Nat} (hn : 0 < n) (hn8 : n ≤ 60) (ls : List (Int × Int)) (ms : List Mv) (hl : ms.length ≤ 800) : RI n ls (numS n ms) 0 (ms.length + 1) (renewed n ms) := by
  obtain ⟨h, ht⟩ := after_inv n hn hn8 ms (by omega)
  obtain ⟨f1, f2, f3, f4⟩ := forget_all h n
  obtain ⟨e, hr⟩ := f1.renew hn (by omega)
  have hrs : ∀ i, (renewed n ms).rs i = upd (forgetTo (after n ms) n).rs 0 (renewF ((forgetTo (after n ms) n).rs 0) (((forgetTo (after n ms) n).rs 0).os + 1)) i := fun _ => rfl
  have hlow : ∀ i, i < n → 0 < i → ((renewed n ms).rs i).os < numS n ms := fun i hi h0 => by
    rw [hrs, upd_far _ _ (by omega), f2]
    have := ht i hi
    unfold numS
    omega
  have hroot : (renewed n ms).rs 0 = ⟨numS n ms, 0, numS n ms, 0, -1⟩ := by
    rw [hrs, upd_same, e, f2]
    rfl
  refine ⟨hr, hroot, fun i hi => ?_, fun i hi h0 hS => ?_, fun i hi o ho => ?_⟩
  · by_cases h0 : 0 < i
    · have := hlow i hi h0; omega
    · obtain rfl : i = 0 := by omega
      rw [hroot]
      exact Int.le_refl _
  · have := hlow i hi h0; omega
  · have : (renewed n ms).heard i = [] := f4 i hi
    rw [this] at ho
    cases ho

theorem ri_all {n : Nat} (hn : 0 < n) (hn8 : n ≤ 60) (ls : List (Int × Int)) (ms : List Mv) (hl : ms.length ≤ 800) : ∀ t, t ≤ 60 → RI n ls (numS n ms) t (ms.length + 1 + t * (2 * ls.length + (n - 1))) (mT n ls ms t)
  | 0, _ => by rw [Nat.zero_mul]; exact ri_start hn hn8 ls ms hl
  | t + 1, ht => by
    have := (round_all (ri_all hn hn8 ls ms hl t (by omega)) hn hn8 (by omega)).1
    rw [show ms.length + 1 + (t + 1) * (2 * ls.length + (n - 1)) = ms.length + 1 + t * (2 * ls.length + (n - 1)) + 2 * ls.length + (n - 1) by rw [Nat.succ_mul]; omega]
    exact this
theorem stepped_all {n : Nat} (hn : 0 < n) (hn8 : n ≤ 60) (ls : List (Int × Int)) (ms : List Mv) (hl : ms.length ≤ 800) (t : Nat) (ht : t ≤ 59) : Stepped n ls (numS n ms) (mT n ls ms t) (mT n ls ms (t + 1)) :=
  (round_all (ri_all hn hn8 ls ms hl t (by omega)) hn hn8 (by omega)).2

/-- Sets that grow step by step, each from the one before: behind as many steps as there are nodes they stand still. -/
theorem stand {n : Nat} (hn : 0 < n) (F : Nat → Nat → Bool) (h0 : F 0 0 = true) (hmono : ∀ t i, t < n → i < n → F t i = true → F (t + 1) i = true)
    (hstep : ∀ t, t + 2 ≤ n → (∀ i, i < n → F (t + 1) i = F t i) → ∀ i, i < n → F (t + 2) i = F (t + 1) i) : ∀ i, i < n → F n i = F (n - 1) i := by
  have go : ∀ d t, t + d + 1 = n → (∀ i, i < n → F (t + 1) i = F t i) → ∀ i, i < n → F n i = F (n - 1) i := by
    intro d
    induction d with
    | zero =>
      intro t ht h
      have e1 : t + 1 = n := by omega
      have e2 : t = n - 1 := by omega
      rw [e1, e2] at h
      exact h
    | succ d ih =>
      intro t ht h
      exact ih (t + 1) (by omega) (hstep t (by omega) h)
  by_cases hs : ∃ t, t < n ∧ ∀ i, i < n → F (t + 1) i = F t i
  · obtain ⟨t, ht, h⟩ := hs
    exact go (n - 1 - t) t (by omega) h
  · have cnt : ∀ t, t ≤ n → t + 1 ≤ (List.range n).countP (F t) := by
      intro t
      induction t with
      | zero =>
        intro _
        have := List.countP_pos_iff.2 ⟨0, List.mem_range.2 hn, h0⟩
        omega
      | succ t ih =>
        intro ht
        have h1 := ih (by omega)
        have hex : ∃ i, i < n ∧ F (t + 1) i ≠ F t i := by
          apply Classical.byContradiction
          intro hne
          exact hs ⟨t, by omega, fun i hi => Classical.byContradiction (fun he => hne ⟨i, hi, he⟩)⟩
        obtain ⟨i, hi, he⟩ := hex
        have hf : F t i = false := by
          cases hv : F t i with
          | false => rfl
          | true => exact absurd ((hmono t i (by omega) hi hv).trans hv.symm) he
        have ht' : F (t + 1) i = true := by
          cases hv : F (t + 1) i with
          | true => rfl
          | false => exact absurd (hv.trans hf.symm) he
        have := countP_lt_of (p := F t) (q := F (t + 1)) (List.range n) (fun j hj hp => hmono t j (by omega) (List.mem_range.1 hj) hp) ⟨i, List.mem_range.2 hi, ht', hf⟩
        omega
    have h1 := cnt n (Nat.le_refl _)
    have h2 := List.countP_le_length (p := F n) (l := List.range n)
    rw [List.length_range] at h2
    omega

/-- t steps upwards from a. -/
def goUp (m : St) (a : Int) : Nat → Int
  | 0 => a
  | t + 1 => if 0 < goUp m a t then (m.rs (goUp m a t).toNat).par else goUp m a t

theorem goUp_range {n N : Nat} {m : St} (h : Inv n N m) {i : Nat} (hi : i < n) : ∀ t, goUp m (i : Nat) t = -1 ∨ ∃ a : Nat, a < n ∧ goUp m (i : Nat) t = (a : Nat)
  | 0 => .inr ⟨i, hi, rfl⟩
  | t + 1 => by
    rw [goUp]
    rcases goUp_range h hi t with e | ⟨a, ha, e⟩
    · rw [e, if_neg (by omega)]; exact .inl rfl
    · rw [e]
      split
      · rw [Int.toNat_natCast]
        rcases h.par a ha with e2 | ⟨p, hp, e2, _⟩
        · exact .inl e2
        · exact .inr ⟨p, hp, e2⟩
      · exact .inr ⟨a, ha, rfl⟩

theorem nb_lt {n : Nat} (hn : 0 < n) {ls : List (Int × Int)} {i j : Nat} (h : nb n ls i j) : i < n ∧ j < n := by
  obtain ⟨_, l, _, ht⟩ := h
  have h1 := idx_lt hn l.1
  have h2 := idx_lt hn l.2
  rcases ht with ⟨e1, e2⟩ | ⟨e1, e2⟩ <;> omega

/-- The law. -/
theorem reach {n : Nat} (hn : 2 ≤ n) (hn8 : n ≤ 8) (ls : List (Int × Int)) (ms : List Mv) (hl : ms.length ≤ 800) {i : Nat} (hi : i < n) :
    jT n ls n i = decide (goUp (mT n ls ms n) (i : Nat) n = 0) := by
  have hn0 : 0 < n := by omega
  obtain ⟨S, hS⟩ : ∃ S, S = numS n ms := ⟨_, rfl⟩
  have ri := fun t (ht : t ≤ 60) => ri_all hn0 (by omega) ls ms hl t ht
  have st := fun t (ht : t ≤ 59) => stepped_all hn0 (by omega) ls ms hl t ht
  rw [← hS] at ri st
  obtain ⟨F, hF⟩ : ∃ F : Nat → Nat → Bool, F = fun t i => decide (((mT n ls ms t).rs i).os = S) := ⟨_, rfl⟩
  have f_iff : ∀ t i, F t i = true ↔ ((mT n ls ms t).rs i).os = S := fun t i => by rw [hF]; exact decide_eq_true_iff
  have f_step : ∀ t i, t ≤ 59 → i < n → (F (t + 1) i = true ↔ F t i = true ∨ ∃ j, j < n ∧ nb n ls i j ∧ F t j = true) := by
    intro t i ht hi
    rw [f_iff, (st t ht).step i hi, f_iff]
    refine or_congr Iff.rfl (exists_congr fun j => and_congr Iff.rfl (and_congr Iff.rfl ?_))
    rw [f_iff]
  have f_root : ∀ t, t ≤ 60 → F t 0 = true := fun t ht => by rw [f_iff, (ri t ht).root]
  have hstand := stand hn0 F (f_root 0 (by omega)) (fun t i ht hi h => (f_step t i (by omega) hi).2 (.inl h)) (fun t ht h i hi => by
    have e1 := f_step (t + 1) i (by omega) hi
    have e2 := f_step t i (by omega) hi
    rw [Bool.eq_iff_iff]
    constructor
    · intro hh
      rcases e1.1 hh with h1 | ⟨j, h1, h2, h3⟩
      · exact h1
      · rw [h j h1] at h3; exact e2.2 (.inr ⟨j, h1, h2, h3⟩)
    · exact fun hh => e1.2 (.inl hh))
  have hclosed : ∀ i j, nb n ls i j → F n j = true → F n i = true := by
    intro i j hb hj
    obtain ⟨h1, h2⟩ := nb_lt hn0 hb
    rw [hstand j h2] at hj
    have := (f_step (n - 1) i (by omega) h1).2 (.inr ⟨j, h2, hb, hj⟩)
    rwa [show n - 1 + 1 = n by omega] at this
  -- who is joined has the root's number, and who has it is joined
  have hj1 : ∀ t i, jT n ls t i = true → F n i = true := by
    intro t
    induction t with
    | zero =>
      intro i h
      have : i = 0 := of_decide_eq_true h
      subst this
      exact f_root n (by omega)
    | succ t ih =>
      intro i h
      exact jpass_in (X := fun i => F n i = true) ls hclosed ih i h
  have hj2 : ∀ t, t ≤ n → ∀ i, i < n → F t i = true → jT n ls t i = true := by
    intro t
    induction t with
    | zero =>
      intro _ i hi h
      refine decide_eq_true ?_
      apply Classical.byContradiction
      intro h0
      rw [f_iff] at h
      have h3 := (ri_start hn0 (by omega) ls ms hl).fr i hi (by omega) (by rw [← hS]; exact h)
      obtain ⟨⟨p, _, _, _, _⟩, _⟩ := h3
      -- at the start only the root has its number
      obtain ⟨ha, ht⟩ := after_inv n hn0 (by omega) ms (by omega)
      obtain ⟨_, f2, _, _⟩ := forget_all ha n
      have e : (mT n ls ms 0).rs i = (after n ms).rs i := by
        show upd (forgetTo (after n ms) n).rs 0 _ i = _
        rw [upd_far _ _ (by omega), f2]
      rw [e, hS] at h
      have := ht i hi
      unfold numS at h
      omega
    | succ t ih =>
      intro ht i hi h
      rcases (f_step t i (by omega) hi).1 h with h | ⟨j, h1, h2, h3⟩
      · exact jpass_mono ls (ih (by omega) i hi h)
      · exact jpass_nb ls h2 (ih (by omega) j h1 h3)
  have hj : jT n ls n i = F n i := by
    rw [Bool.eq_iff_iff]
    exact ⟨hj1 n i, hj2 n (Nat.le_refl _) i hi⟩
  rw [hj]
  have rn := ri n (by omega)
  have dn := rn.inv.down
  have sn := st (n - 1) (by omega)
  rw [show n - 1 + 1 = n by omega] at sn
  cases hv : F n i with
  | true =>
    symm
    refine decide_eq_true ?_
    have up : ∀ t, ∃ a : Nat, a < n ∧ goUp (mT n ls ms n) (i : Nat) t = (a : Nat) ∧ F n a = true ∧ (a = 0 ∨ rk n (mT n ls ms n) a + t ≤ rk n (mT n ls ms n) i) := by
      intro t
      induction t with
      | zero => exact ⟨i, hi, rfl, hv, .inr (Nat.le_refl _)⟩
      | succ t ih =>
        obtain ⟨a, ha, e, hFa, hr⟩ := ih
        rw [goUp, e]
        by_cases h0 : 0 < a
        · rw [if_pos (by omega), Int.toNat_natCast]
          obtain ⟨⟨p, hp, hpe, _, hps⟩, _⟩ := rn.fr a ha h0 ((f_iff n a).1 hFa)
          refine ⟨p, hp, hpe, (f_iff n p).2 hps, ?_⟩
          rcases dn.par a ha with h2 | ⟨p', _, h2, h3⟩
          · omega
          · have : p' = p := by omega
            subst this
            right
            omega
        · rw [if_neg (by omega)]
          exact ⟨a, ha, rfl, hFa, .inl (by omega)⟩
    obtain ⟨a, ha, e, _, hr⟩ := up n
    have := dn.lt i hi
    have := dn.lt a ha
    rcases hr with rfl | hr
    · exact e
    · omega
  | false =>
    symm
    refine decide_eq_false ?_
    have up : ∀ t, goUp (mT n ls ms n) (i : Nat) t = -1 ∨ ∃ a : Nat, a < n ∧ goUp (mT n ls ms n) (i : Nat) t = (a : Nat) ∧ F n a = false := by
      intro t
      induction t with
      | zero => exact .inr ⟨i, hi, rfl, hv⟩
      | succ t ih =>
        rw [goUp]
        rcases ih with e | ⟨a, ha, e, hFa⟩
        · rw [e, if_neg (by omega)]; exact .inl rfl
        · rw [e]
          have h0 : 0 < a := by
            rcases Nat.eq_zero_or_pos a with rfl | h
            · rw [f_root n (by omega)] at hFa; cases hFa
            · exact h
          rw [if_pos (by omega), Int.toNat_natCast]
          rcases sn.par a ha h0 with h1 | ⟨j, h1, h2, h3⟩
          · exact .inl h1
          · refine .inr ⟨j, h1, h2, ?_⟩
            cases hFj : F n j with
            | false => rfl
            | true => rw [hclosed a j h3 hFj] at hFa; cases hFa
    rcases up n with e | ⟨a, ha, e, hFa⟩
    · rw [e]; omega
    · rw [e]
      intro h0
      have : a = 0 := by omega
      subst this
      rw [f_root n (by omega)] at hFa
      cases hFa

end Go.Proofs.Ytefnjhdmpnfacaa.rankReaching
