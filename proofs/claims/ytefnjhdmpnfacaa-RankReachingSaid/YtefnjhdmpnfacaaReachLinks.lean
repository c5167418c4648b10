/- Plain laws of RankReaching, first part: what a pass over the links leaves. -/
import Derived.Test.YtefnjhdmpnfacaaMeshPlain
namespace Go.Proofs.Ytefnjhdmpnfacaa.rankReaching
set_option linter.unusedVariables false

theorem hear_new : ∀ (l : List Off) (o : Off), o ∈ hearL l o
  | [], o => by simp [hearL]
  | y :: l, o => by
    rw [hearL]
    split
    · exact List.mem_cons_self
    · exact List.mem_cons_of_mem _ (hear_new l o)
theorem hear_old : ∀ (l : List Off) (o x : Off), x ∈ l → x.peer ≠ o.peer → x ∈ hearL l o
  | y :: l, o, x, h, hp => by
    rw [hearL]
    rcases List.mem_cons.1 h with rfl | h
    · rw [if_neg hp]
      exact List.mem_cons_self
    · split
      · exact List.mem_cons_of_mem _ h
      · exact List.mem_cons_of_mem _ (hear_old l o x h hp)
theorem hear_mem : ∀ (l : List Off) (o x : Off), (l.map Off.peer).Nodup → x ∈ hearL l o → x = o ∨ (x ∈ l ∧ x.peer ≠ o.peer)
  | [], o, x, _, h => by simp [hearL] at h; exact .inl h
  | y :: l, o, x, hn, h => by
    rw [List.map_cons, List.nodup_cons] at hn
    rw [hearL] at h
    split at h
    · rename_i he
      rcases List.mem_cons.1 h with h | h
      · exact .inl h
      · exact .inr ⟨List.mem_cons_of_mem _ h, fun e => hn.1 (List.mem_map.2 ⟨x, h, e.trans he.symm⟩)⟩
    · rename_i he
      rcases List.mem_cons.1 h with h | h
      · subst h; exact .inr ⟨List.mem_cons_self, he⟩
      · rcases hear_mem l o x hn.2 h with h | h
        · exact .inl h
        · exact .inr ⟨List.mem_cons_of_mem _ h.1, h.2⟩

def costF (a b : Nat) : Int := 1 + (((a : Int) * 7 + (b : Int) * 7) % 50) * 80
theorem cost_comm (a b : Nat) : costF a b = costF b a := by unfold costF; rw [Int.add_comm ((a : Int) * 7)]
theorem cost_bd (a b : Nat) : 1 ≤ costF a b ∧ costF a b ≤ 3921 := by
  unfold costF
  have := Int.emod_nonneg ((a : Int) * 7 + (b : Int) * 7) (show (50 : Int) ≠ 0 by decide)
  have := Int.emod_lt_of_pos ((a : Int) * 7 + (b : Int) * 7) (show (0 : Int) < 50 by decide)
  omega
/-- What i hears of j. -/
def off (m : St) (j i : Nat) : Off := ⟨(j : Nat), (m.rs j).os, (m.rs j).orr, costF i j⟩

/-- One link, the mesh. -/
def mlink (n : Nat) (m : St) (l : Int × Int) : St :=
  if idx n l.1 = idx n l.2 then m else (m.hear (idx n l.1) ⟨(idx n l.2 : Nat), (m.rs (idx n l.2)).os, (m.rs (idx n l.2)).orr, costF (idx n l.1) (idx n l.2)⟩).hear (idx n l.2) ⟨(idx n l.1 : Nat), (m.rs (idx n l.1)).os, (m.rs (idx n l.1)).orr, costF (idx n l.1) (idx n l.2)⟩
/-- One link, who is joined. -/
def jlink (n : Nat) (J : Nat → Bool) (l : Int × Int) : Nat → Bool :=
  if idx n l.1 = idx n l.2 then J else upd (upd J (idx n l.1) (J (idx n l.1) || J (idx n l.2))) (idx n l.2) (J (idx n l.1) || J (idx n l.2))

/-- The link l is between i and j. -/
def tie (n : Nat) (l : Int × Int) (i j : Nat) : Prop := (idx n l.1 = i ∧ idx n l.2 = j) ∨ (idx n l.1 = j ∧ idx n l.2 = i)
def nb (n : Nat) (ls : List (Int × Int)) (i j : Nat) : Prop := i ≠ j ∧ ∃ l ∈ ls, tie n l i j
theorem nb_comm {n : Nat} {ls : List (Int × Int)} {i j : Nat} (h : nb n ls i j) : nb n ls j i := by
  obtain ⟨h1, l, h2, h3⟩ := h
  exact ⟨fun e => h1 e.symm, l, h2, h3.symm⟩
theorem nb_snoc {n : Nat} {ls : List (Int × Int)} {l : Int × Int} {i j : Nat} : nb n (ls ++ [l]) i j ↔ nb n ls i j ∨ (i ≠ j ∧ tie n l i j) := by
  unfold nb
  constructor
  · rintro ⟨h1, x, hx, h2⟩
    rcases List.mem_append.1 hx with hx | hx
    · exact .inl ⟨h1, x, hx, h2⟩
    · rw [List.mem_singleton] at hx; subst hx; exact .inr ⟨h1, h2⟩
  · rintro (⟨h1, x, hx, h2⟩ | ⟨h1, h2⟩)
    · exact ⟨h1, x, List.mem_append_left _ hx, h2⟩
    · exact ⟨h1, l, List.mem_append_right _ (List.mem_singleton.2 rfl), h2⟩

/-- Behind a part of the pass over the links. -/
structure Pass (n N : Nat) (m : St) (ls : List (Int × Int)) (q : St) : Prop where
  inv : Inv n (N + 2 * ls.length) q
  rs : q.rs = m.rs
  told : q.told = m.told
  old : ∀ i, i < n → ∀ o ∈ q.heard i, (∃ j, j < n ∧ nb n ls i j ∧ o = off m j i) ∨ (o ∈ m.heard i ∧ ∀ j : Nat, nb n ls i j → o.peer ≠ (j : Nat))
  new : ∀ i, i < n → ∀ j, j < n → nb n ls i j → off m j i ∈ q.heard i

theorem off_ok {n N : Nat} {m : St} (h : Inv n N m) (hn8 : n ≤ 60) {j : Nat} (hj : j < n) (i : Nat) : offB (off m j i) = true ∧ betB (off m j i).seq (off m j i).rank (m.rs j).ls (m.rs j).lr = false := by
  obtain ⟨⟨a0, a1, a2, a3⟩, _, hb, _, _⟩ := rte_bd (h.valid j hj)
  have := cost_bd i j
  refine ⟨decide_eq_true ?_, hb⟩
  simp only [off]
  omega

theorem Pass.start {n N : Nat} {m : St} (h : Inv n N m) : Pass n N m [] m :=
  ⟨h, rfl, rfl, fun i hi o ho => .inr ⟨ho, fun j hj => by obtain ⟨_, l, hl, _⟩ := hj; cases hl⟩, fun i hi j hj hb => by obtain ⟨_, l, hl, _⟩ := hb; cases hl⟩

/-- One hear. -/
theorem heard_upd {m : St} {a i : Nat} {o : Off} : (m.hear a o).heard i = if i = a then hearL (m.heard a) o else m.heard i := rfl

theorem Pass.step {n N : Nat} {m q : St} {ls : List (Int × Int)} (h : Pass n N m ls q) (hn : 0 < n) (hn8 : n ≤ 60) (l : Int × Int) : Pass n N m (ls ++ [l]) (mlink n q l) := by
  have ha := idx_lt hn l.1
  have hb := idx_lt hn l.2
  unfold mlink
  by_cases e : idx n l.1 = idx n l.2
  · rw [if_pos e]
    have hno : ∀ i j, i ≠ j → ¬ tie n l i j := by
      intro i j hij ht
      rcases ht with ⟨h1, h2⟩ | ⟨h1, h2⟩ <;> omega
    have hiff : ∀ i j, nb n (ls ++ [l]) i j ↔ nb n ls i j := fun i j => by
      rw [nb_snoc]
      exact ⟨fun h => h.elim id (fun h => absurd h.2 (hno i j h.1)), .inl⟩
    refine ⟨h.inv.more (by simp; omega), h.rs, h.told, fun i hi o ho => ?_, fun i hi j hj hb => h.new i hi j hj ((hiff i j).1 hb)⟩
    rcases h.old i hi o ho with ⟨j, h1, h2, h3⟩ | ⟨h1, h2⟩
    · exact .inl ⟨j, h1, (hiff i j).2 h2, h3⟩
    · exact .inr ⟨h1, fun j hj => h2 j ((hiff i j).1 hj)⟩
  · rw [if_neg e]
    obtain ⟨a, hea⟩ : ∃ a, a = idx n l.1 := ⟨_, rfl⟩
    obtain ⟨b, heb⟩ : ∃ b, b = idx n l.2 := ⟨_, rfl⟩
    rw [← hea] at ha e ⊢
    rw [← heb] at hb e ⊢
    have o1 : (⟨(b : Nat), (q.rs b).os, (q.rs b).orr, costF a b⟩ : Off) = off m b a := by rw [h.rs]; rfl
    have o2 : (⟨(a : Nat), (q.rs a).os, (q.rs a).orr, costF a b⟩ : Off) = off m a b := by rw [h.rs, cost_comm]; rfl
    rw [o1, o2]
    have k1 := off_ok h.inv hn8 hb a
    have k2 := off_ok h.inv hn8 ha b
    have t1 : off q b a = off m b a := by unfold off; rw [h.rs]
    have t2 : off q a b = off m a b := by unfold off; rw [h.rs]
    rw [t1] at k1
    rw [t2] at k2
    have i1 := h.inv.hear (i := a) hb rfl k1.1 k1.2
    have i2 := i1.hear (i := b) (p := a) ha rfl k2.1 k2.2
    have hnd : ∀ i, i < n → ((q.heard i).map Off.peer).Nodup := h.inv.nodup
    have tab : ∀ i j, i ≠ j → (tie n l i j ↔ (i = a ∧ j = b) ∨ (i = b ∧ j = a)) := by
      intro i j _
      unfold tie
      rw [← hea, ← heb]
      constructor
      · rintro (⟨h1, h2⟩ | ⟨h1, h2⟩)
        · exact .inl ⟨h1.symm, h2.symm⟩
        · exact .inr ⟨h2.symm, h1.symm⟩
      · rintro (⟨h1, h2⟩ | ⟨h1, h2⟩)
        · exact .inl ⟨h1.symm, h2.symm⟩
        · exact .inr ⟨h2.symm, h1.symm⟩
    have hA : ((q.hear a (off m b a)).hear b (off m a b)).heard a = hearL (q.heard a) (off m b a) := by
      rw [heard_upd, if_neg e, heard_upd, if_pos rfl]
    have hBb : ((q.hear a (off m b a)).hear b (off m a b)).heard b = hearL (q.heard b) (off m a b) := by
      rw [heard_upd, if_pos rfl, heard_upd, if_neg (Ne.symm e)]
    have hO : ∀ i, i ≠ a → i ≠ b → ((q.hear a (off m b a)).hear b (off m a b)).heard i = q.heard i := by
      intro i h1 h2
      rw [heard_upd, if_neg h2, heard_upd, if_neg h1]
    refine ⟨?_, h.rs, h.told, fun i hi o ho => ?_, fun i hi j hj hij => ?_⟩
    · rw [List.length_append, List.length_singleton, show N + 2 * (ls.length + 1) = N + 2 * ls.length + 1 + 1 by omega]
      exact i2
    · -- one of the two ends, with the other end x
      have one : ∀ x, x < n → i ≠ x → (∀ j, nb n (ls ++ [l]) i j ↔ nb n ls i j ∨ j = x) → o ∈ hearL (q.heard i) (off m x i) →
          (∃ j, j < n ∧ nb n (ls ++ [l]) i j ∧ o = off m j i) ∨ (o ∈ m.heard i ∧ ∀ j : Nat, nb n (ls ++ [l]) i j → o.peer ≠ (j : Nat)) := by
        intro x hx hix hn' hm
        rcases hear_mem _ _ _ (hnd i hi) hm with rfl | ⟨hm, hp⟩
        · exact .inl ⟨x, hx, (hn' x).2 (.inr rfl), rfl⟩
        · rcases h.old i hi o hm with ⟨j, h1, h2, h3⟩ | ⟨h1, h2⟩
          · exact .inl ⟨j, h1, (hn' j).2 (.inl h2), h3⟩
          · refine .inr ⟨h1, fun j hj => ?_⟩
            rcases (hn' j).1 hj with hj | rfl
            · exact h2 j hj
            · exact hp
      by_cases ea : i = a
      · subst ea
        rw [hA] at ho
        refine one b hb e (fun j => ?_) ho
        rw [nb_snoc]
        constructor
        · rintro (h | ⟨h1, h2⟩)
          · exact .inl h
          · rcases (tab i j h1).1 h2 with h | h
            · exact .inr h.2
            · exact absurd h.1 e
        · rintro (h | rfl)
          · exact .inl h
          · exact .inr ⟨e, (tab _ _ e).2 (.inl ⟨rfl, rfl⟩)⟩
      · by_cases eb : i = b
        · subst eb
          rw [hBb] at ho
          refine one a ha (Ne.symm e) (fun j => ?_) ho
          rw [nb_snoc]
          constructor
          · rintro (h | ⟨h1, h2⟩)
            · exact .inl h
            · rcases (tab i j h1).1 h2 with h | h
              · exact absurd h.1 ea
              · exact .inr h.2
          · rintro (h | rfl)
            · exact .inl h
            · exact .inr ⟨Ne.symm e, (tab _ _ (Ne.symm e)).2 (.inr ⟨rfl, rfl⟩)⟩
        · rw [hO i ea eb] at ho
          have hiff : ∀ j, nb n (ls ++ [l]) i j ↔ nb n ls i j := fun j => by
            rw [nb_snoc]
            refine ⟨fun h => h.elim id (fun ⟨h1, h2⟩ => ?_), .inl⟩
            rcases (tab i j h1).1 h2 with h | h
            · exact absurd h.1 ea
            · exact absurd h.1 eb
          rcases h.old i hi o ho with ⟨j, h1, h2, h3⟩ | ⟨h1, h2⟩
          · exact .inl ⟨j, h1, (hiff j).2 h2, h3⟩
          · exact .inr ⟨h1, fun j hj => h2 j ((hiff j).1 hj)⟩
    · by_cases ea : i = a
      · subst ea
        rw [hA]
        by_cases ej : j = b
        · subst ej; exact hear_new _ _
        · refine hear_old _ _ _ ?_ (fun hp => ej (by simp only [off] at hp; omega))
          rcases nb_snoc.1 hij with hij | ⟨h1, h2⟩
          · exact h.new i hi j hj hij
          · rcases (tab i j h1).1 h2 with h | h
            · exact absurd h.2 ej
            · exact absurd h.1 e
      · by_cases eb : i = b
        · subst eb
          rw [hBb]
          by_cases ej : j = a
          · subst ej; exact hear_new _ _
          · refine hear_old _ _ _ ?_ (fun hp => ej (by simp only [off] at hp; omega))
            rcases nb_snoc.1 hij with hij | ⟨h1, h2⟩
            · exact h.new i hi j hj hij
            · rcases (tab i j h1).1 h2 with h | h
              · exact absurd h.1 ea
              · exact absurd h.2 ej
        · rw [hO i ea eb]
          rcases nb_snoc.1 hij with hij | ⟨h1, h2⟩
          · exact h.new i hi j hj hij
          · rcases (tab i j h1).1 h2 with h | h
            · exact absurd h.1 ea
            · exact absurd h.1 eb

theorem pass_all {n N : Nat} {m : St} (h : Inv n N m) (hn : 0 < n) (hn8 : n ≤ 60) (ls : List (Int × Int)) : Pass n N m ls (ls.foldl (mlink n) m) := by
  have key : ∀ (rest done : List (Int × Int)) (q : St), Pass n N m done q → Pass n N m (done ++ rest) (rest.foldl (mlink n) q) := by
    intro rest
    induction rest with
    | nil => intro done q h; rw [List.append_nil]; exact h
    | cons l rest ih =>
      intro done q h
      have := ih (done ++ [l]) (mlink n q l) (h.step hn hn8 l)
      rwa [List.append_assoc] at this
  have := key ls [] m (Pass.start h)
  rwa [List.nil_append] at this

/-! who is joined -/
theorem jlink_mono {n : Nat} {J : Nat → Bool} (l : Int × Int) {i : Nat} (h : J i = true) : jlink n J l i = true := by
  unfold jlink
  split
  · exact h
  · unfold upd
    split
    · rename_i e; subst e; rw [h, Bool.or_true]
    · split
      · rename_i e; subst e; rw [h, Bool.true_or]
      · exact h
theorem jpass_mono {n : Nat} (ls : List (Int × Int)) : ∀ {J : Nat → Bool} {i : Nat}, J i = true → ls.foldl (jlink n) J i = true := by
  induction ls with
  | nil => intro J i h; exact h
  | cons l ls ih => intro J i h; exact ih (jlink_mono l h)
theorem jlink_tie {n : Nat} {J : Nat → Bool} {l : Int × Int} {i j : Nat} (ht : tie n l i j) (h : J j = true) : jlink n J l i = true := by
  unfold jlink
  split
  · rename_i e
    rcases ht with ⟨h1, h2⟩ | ⟨h1, h2⟩
    · rw [← h1, e, h2]; exact h
    · rw [← h2, ← e, h1]; exact h
  · unfold upd
    rcases ht with ⟨h1, h2⟩ | ⟨h1, h2⟩
    · split
      · rw [h2, h, Bool.or_true]
      · rw [if_pos h1.symm, h2, h, Bool.or_true]
    · rw [if_pos h2.symm, h1, h, Bool.true_or]
theorem jpass_nb {n : Nat} (ls : List (Int × Int)) : ∀ {J : Nat → Bool} {i j : Nat}, nb n ls i j → J j = true → ls.foldl (jlink n) J i = true := by
  induction ls with
  | nil => intro J i j h _; obtain ⟨_, l, hl, _⟩ := h; cases hl
  | cons l ls ih =>
    intro J i j h hj
    obtain ⟨h1, x, hx, h2⟩ := h
    rcases List.mem_cons.1 hx with rfl | hx
    · exact jpass_mono ls (jlink_tie h2 hj)
    · exact ih ⟨h1, x, hx, h2⟩ (jlink_mono l hj)
/-- What is closed under the links holds all that are joined. -/
theorem jpass_in {n : Nat} {X : Nat → Prop} (ls : List (Int × Int)) : ∀ {J : Nat → Bool}, (∀ i j, nb n ls i j → X j → X i) → (∀ i, J i = true → X i) → ∀ i, ls.foldl (jlink n) J i = true → X i := by
  induction ls with
  | nil => intro J _ h i hi; exact h i hi
  | cons l ls ih =>
    intro J hc h
    refine ih (fun i j hb => hc i j (by obtain ⟨h1, x, hx, h2⟩ := hb; exact ⟨h1, x, List.mem_cons_of_mem _ hx, h2⟩)) (fun i hi => ?_)
    unfold jlink at hi
    split at hi
    · exact h i hi
    · rename_i e
      have hab : (J (idx n l.1) || J (idx n l.2)) = true → X (idx n l.1) ∧ X (idx n l.2) := by
        intro hor
        rcases Bool.or_eq_true _ _ ▸ hor with hj | hj
        · have := h _ hj
          exact ⟨this, hc _ _ ⟨Ne.symm e, l, List.mem_cons_self, .inr ⟨rfl, rfl⟩⟩ this⟩
        · have := h _ hj
          exact ⟨hc _ _ ⟨e, l, List.mem_cons_self, .inl ⟨rfl, rfl⟩⟩ this, this⟩
      unfold upd at hi
      split at hi
      · rename_i e1; subst e1; exact (hab hi).2
      · split at hi
        · rename_i e2; subst e2; exact (hab hi).1
        · exact h i hi

end Go.Proofs.Ytefnjhdmpnfacaa.rankReaching
