/- Plain laws of RankReaching, second part: a round, and who has the root's number behind it. -/
import Derived.Test.YtefnjhdmpnfacaaReachLinks
namespace Go.Proofs.Ytefnjhdmpnfacaa.rankReaching
set_option linter.unusedVariables false

/-- Node i chooses. -/
def chF (m : St) (i : Nat) : St := m.tell i (chooseF (m.rs i) (m.heard i))
/-- Nodes 1 to k choose. -/
def chTo (m : St) : Nat → St
  | 0 => m
  | k + 1 => chF (chTo m k) (k + 1)

structure Chose (n N : Nat) (m : St) (k : Nat) (q : St) : Prop where
  inv : Inv n (N + k) q
  heard : q.heard = m.heard
  rs : ∀ i, q.rs i = if 0 < i ∧ i ≤ k then chooseF (m.rs i) (m.heard i) else m.rs i

theorem chose {n N : Nat} {m : St} (h : Inv n N m) : ∀ k, k < n → Chose n N m k (chTo m k)
  | 0, _ => ⟨h, rfl, fun i => by rw [if_neg (by omega)]; rfl⟩
  | k + 1, hk => by
    have ih := chose h k (by omega)
    have e : chooseF ((chTo m k).rs (k + 1)) ((chTo m k).heard (k + 1)) = chooseF (m.rs (k + 1)) (m.heard (k + 1)) := by
      rw [ih.rs, if_neg (by omega), ih.heard]
    refine ⟨ih.inv.choose hk (by omega), ih.heard, fun i => ?_⟩
    show upd (chTo m k).rs (k + 1) (chooseF ((chTo m k).rs (k + 1)) ((chTo m k).heard (k + 1))) i = _
    rw [e]
    by_cases hi : i = k + 1
    · subst hi
      rw [upd_same, if_pos (by omega)]
    · rw [upd_far _ _ hi, ih.rs]
      by_cases h1 : 0 < i ∧ i ≤ k
      · rw [if_pos h1, if_pos (by omega)]
      · rw [if_neg h1, if_neg (by omega)]

/-- Behind t rounds: S is the root's number. -/
structure RI (n : Nat) (ls : List (Int × Int)) (S : Int) (t N : Nat) (m : St) : Prop where
  inv : Inv n N m
  root : m.rs 0 = ⟨S, 0, S, 0, -1⟩
  low : ∀ i, i < n → (m.rs i).os ≤ S
  fr : ∀ i, i < n → 0 < i → (m.rs i).os = S → (∃ p : Nat, p < n ∧ (m.rs i).par = (p : Nat) ∧ nb n ls i p ∧ (m.rs p).os = S) ∧ (m.rs i).orr ≤ t * 3921
  hd : ∀ i, i < n → ∀ o ∈ m.heard i, ∃ j : Nat, j < n ∧ o.peer = (j : Nat) ∧ nb n ls i j

/-- A round. -/
def roundF (n : Nat) (ls : List (Int × Int)) (m : St) : St := chTo (ls.foldl (mlink n) m) (n - 1)

structure Stepped (n : Nat) (ls : List (Int × Int)) (S : Int) (m q : St) : Prop where
  step : ∀ i, i < n → ((q.rs i).os = S ↔ (m.rs i).os = S ∨ ∃ j, j < n ∧ nb n ls i j ∧ (m.rs j).os = S)
  par : ∀ i, i < n → 0 < i → (q.rs i).par = -1 ∨ ∃ j : Nat, j < n ∧ (q.rs i).par = (j : Nat) ∧ nb n ls i j

theorem rank_bd {n : Nat} {ls : List (Int × Int)} {S : Int} {t N : Nat} {m : St} (h : RI n ls S t N m) {j : Nat} (hj : j < n) (hs : (m.rs j).os = S) : (m.rs j).orr ≤ t * 3921 := by
  by_cases h0 : 0 < j
  · exact (h.fr j hj h0 hs).2
  · obtain rfl : j = 0 := by omega
    rw [h.root]
    simp only
    omega

theorem round_all {n : Nat} {ls : List (Int × Int)} {S : Int} {t N : Nat} {m : St} (h : RI n ls S t N m) (hn : 0 < n) (hn8 : n ≤ 60) (ht : t ≤ 60) :
    RI n ls S (t + 1) (N + 2 * ls.length + (n - 1)) (roundF n ls m) ∧ Stepped n ls S m (roundF n ls m) := by
  have hp := pass_all h.inv hn hn8 ls
  obtain ⟨p, hpe⟩ : ∃ p, p = ls.foldl (mlink n) m := ⟨_, rfl⟩
  have hc := chose hp.inv (n - 1) (by omega)
  unfold roundF
  rw [← hpe] at hp hc ⊢
  obtain ⟨q, hqe⟩ : ∃ q, q = chTo p (n - 1) := ⟨_, rfl⟩
  rw [← hqe] at hc ⊢
  -- what is heard
  have hin : ∀ i, i < n → ∀ o ∈ p.heard i, ∃ j, j < n ∧ nb n ls i j ∧ o = off m j i := by
    intro i hi o ho
    rcases hp.old i hi o ho with hh | ⟨h1, h2⟩
    · exact hh
    · obtain ⟨j, _, hj2, hj3⟩ := h.hd i hi o h1
      exact absurd hj2 (h2 j hj3)
  have hrs : ∀ i, p.rs i = m.rs i := fun i => by rw [hp.rs]
  have hq0 : q.rs 0 = m.rs 0 := by rw [hc.rs, if_neg (by omega), hrs]
  have hqi : ∀ i, i < n → 0 < i → q.rs i = chooseF (m.rs i) (p.heard i) := fun i hi h0 => by rw [hc.rs, if_pos (by omega), hrs]
  -- each node's choice
  have each : ∀ i, i < n → 0 < i →
      (((m.rs i).os = S ∨ ∃ j, j < n ∧ nb n ls i j ∧ (m.rs j).os = S) → ∃ j : Nat, j < n ∧ nb n ls i j ∧ (m.rs j).os = S ∧ (q.rs i).os = S ∧ (q.rs i).par = (j : Nat) ∧ (q.rs i).orr ≤ ((t + 1 : Nat) : Int) * 3921) ∧
      (¬ ((m.rs i).os = S ∨ ∃ j, j < n ∧ nb n ls i j ∧ (m.rs j).os = S) → (q.rs i).os < S ∧ ((q.rs i).par = -1 ∨ ∃ j : Nat, j < n ∧ (q.rs i).par = (j : Nat) ∧ nb n ls i j)) := by
    intro i hi h0
    have hv := h.inv.valid i hi
    have hoffs : offsB (p.heard i) = true := hp.inv.offs hi
    have hseq := h.inv.seq i hi
    have hlow := h.low i hi
    rw [hqi i hi h0]
    constructor
    · intro hS
      -- an offer with the root's number is possible
      have hex : ∃ j, j < n ∧ nb n ls i j ∧ (m.rs j).os = S ∧ possB (m.rs i) (off m j i) = true := by
        by_cases hiS : (m.rs i).os = S
        · obtain ⟨⟨j, hj, hpj, hnj, hSj⟩, _⟩ := h.fr i hi h0 hiS
          refine ⟨j, hj, hnj, hSj, ?_⟩
          rw [poss_iff]
          have := rank_bd h hj hSj
          have := cost_bd i j
          simp only [off]
          omega
        · rcases hS with hS | ⟨j, hj, hnj, hSj⟩
          · exact absurd hS hiS
          · refine ⟨j, hj, hnj, hSj, ?_⟩
            rw [poss_iff]
            have := rank_bd h hj hSj
            have := cost_bd i j
            simp only [off]
            omega
      obtain ⟨j, hj, hnj, hSj, hpj⟩ := hex
      have hmem := hp.new i hi j hj hnj
      rcases choose_two hv hoffs with ⟨h1, _⟩ | ⟨b, hb, hb1, hb2, hb3⟩
      · rw [h1 _ hmem] at hpj; cases hpj
      · have hbef := hb2 _ hmem hpj
        obtain ⟨k, hk, hnk, rfl⟩ := hin i hi b hb
        rw [bef_nif] at hbef
        simp only [off] at hbef
        have hlk := h.low k hk
        have hSk : (m.rs k).os = S := by omega
        have hrk := rank_bd h hk hSk
        have hck := cost_bd i k
        rw [hb3]
        refine ⟨k, hk, hnk, hSk, ?_⟩
        unfold takeF
        split
        · simp only [off]; exact ⟨hSk, trivial, by omega⟩
        · simp only [off]; exact ⟨hSk, trivial, by omega⟩
    · intro hS
      have hiS : ¬ (m.rs i).os = S := fun e => hS (.inl e)
      rcases choose_two hv hoffs with ⟨_, h1⟩ | ⟨b, hb, hb1, hb2, hb3⟩
      · rw [h1]
        refine ⟨?_, .inl rfl⟩
        simp only
        omega
      · obtain ⟨k, hk, hnk, rfl⟩ := hin i hi b hb
        have hSk : ¬ (m.rs k).os = S := fun e => hS (.inr ⟨k, hk, hnk, e⟩)
        have hlk := h.low k hk
        rw [hb3]
        unfold takeF
        split
        · simp only [off]; exact ⟨by omega, .inr ⟨k, hk, rfl, hnk⟩⟩
        · simp only [off]; exact ⟨by omega, .inr ⟨k, hk, rfl, hnk⟩⟩
  have hroot : q.rs 0 = ⟨S, 0, S, 0, -1⟩ := by rw [hq0]; exact h.root
  have step : ∀ i, i < n → ((q.rs i).os = S ↔ (m.rs i).os = S ∨ ∃ j, j < n ∧ nb n ls i j ∧ (m.rs j).os = S) := by
    intro i hi
    by_cases h0 : 0 < i
    · obtain ⟨e1, e2⟩ := each i hi h0
      constructor
      · intro hq
        by_cases hS : (m.rs i).os = S ∨ ∃ j, j < n ∧ nb n ls i j ∧ (m.rs j).os = S
        · exact hS
        · have := (e2 hS).1; omega
      · intro hS
        obtain ⟨_, _, _, _, h4, _⟩ := e1 hS
        exact h4
    · obtain rfl : i = 0 := by omega
      rw [hroot, h.root]
      simp
  refine ⟨⟨hc.inv, hroot, fun i hi => ?_, fun i hi h0 hS => ?_, fun i hi o ho => ?_⟩, step, fun i hi h0 => ?_⟩
  · by_cases h0 : 0 < i
    · obtain ⟨e1, e2⟩ := each i hi h0
      by_cases hS : (m.rs i).os = S ∨ ∃ j, j < n ∧ nb n ls i j ∧ (m.rs j).os = S
      · obtain ⟨_, _, _, _, h4, _⟩ := e1 hS; omega
      · have := (e2 hS).1; omega
    · obtain rfl : i = 0 := by omega
      rw [hroot]
      exact Int.le_refl _
  · obtain ⟨e1, _⟩ := each i hi h0
    obtain ⟨j, h1, h2, h3, h4, h5, h6⟩ := e1 ((step i hi).1 hS)
    exact ⟨⟨j, h1, h5, h2, (step j h1).2 (.inl h3)⟩, h6⟩
  · rw [hc.heard] at ho
    obtain ⟨j, h1, h2, rfl⟩ := hin i hi o ho
    exact ⟨j, h1, rfl, h2⟩
  · obtain ⟨e1, e2⟩ := each i hi h0
    by_cases hS : (m.rs i).os = S ∨ ∃ j, j < n ∧ nb n ls i j ∧ (m.rs j).os = S
    · obtain ⟨j, h1, h2, _, _, h5, _⟩ := e1 hS
      exact .inr ⟨j, h1, h5, h2⟩
    · exact (e2 hS).2

end Go.Proofs.Ytefnjhdmpnfacaa.rankReaching
