/- Plain laws of RankChoice: the chosen offer is the first possible one; neither order nor offers that are not chosen matter. -/
import Derived.Test.YtefnjhdmpnfacaaLaws
namespace Go.Proofs.Ytefnjhdmpnfacaa

theorem nodup_inj : ∀ {l : List Off}, (l.map Off.peer).Nodup → ∀ {a b : Off}, a ∈ l → b ∈ l → a.peer = b.peer → a = b
  | [], _, _, _, h, _, _ => by cases h
  | x :: l, hn, a, b, ha, hb, e => by
    rw [List.map_cons, List.nodup_cons] at hn
    rcases List.mem_cons.1 ha with rfl | ha' <;> rcases List.mem_cons.1 hb with rfl | hb'
    · rfl
    · exact absurd (List.mem_map.2 ⟨b, hb', e.symm⟩) hn.1
    · exact absurd (List.mem_map.2 ⟨a, ha', e⟩) hn.1
    · exact nodup_inj hn.2 ha' hb' e
theorem offs_inj {xs : List Off} (h : offsB xs = true) {a b : Off} (ha : a ∈ xs) (hb : b ∈ xs) (e : a.peer = b.peer) : a = b := by
  simp only [offsB, Bool.and_eq_true, decide_eq_true_eq] at h
  exact nodup_inj h.2 ha hb e

theorem take_par (r : Rte) (b : Off) : (takeF r b).par = b.peer ∧ (takeF r b).os = b.seq ∧ (takeF r b).orr = b.rank + b.cost := by
  unfold takeF; split <;> exact ⟨rfl, rfl, rfl⟩

/-- Where an offer's peer is the parent that is chosen, it is possible, and no possible one comes before it. -/
theorem choice_first {r : Rte} {xs : List Off} (hv : rteB r = true) (ho : offsB xs = true) {o : Off} (hm : o ∈ xs) (hp : o.peer = (chooseF r xs).par) :
    possB r o = true ∧ (chooseF r xs).os = o.seq ∧ (chooseF r xs).orr = o.rank + o.cost ∧ ∀ x ∈ xs, possB r x = true → befB x o = false := by
  rcases choose_two hv ho with ⟨h1, h2⟩ | ⟨b, hbm, h1, h3, h2⟩
  · rw [h2] at hp
    have := off_bd (offs_mem ho hm)
    simp only at hp
    omega
  · rw [h2] at hp ⊢
    obtain ⟨e0, e1, e2⟩ := take_par r b
    obtain rfl := offs_inj ho hm hbm (hp.trans e0)
    exact ⟨h1, e1, e2, h3⟩

theorem choice_found {r : Rte} {xs : List Off} (hv : rteB r = true) (ho : offsB xs = true) : xs.any (fun o => decide (o.peer = (chooseF r xs).par)) = decide (0 ≤ (chooseF r xs).par) := by
  rcases choose_two hv ho with ⟨h1, h2⟩ | ⟨b, hbm, h1, h3, h2⟩
  · rw [h2]
    simp only
    rw [show decide ((0 : Int) ≤ -1) = false from by decide, List.any_eq_false]
    intro x hx
    have := off_bd (offs_mem ho hx)
    simp only [decide_eq_true_eq]
    omega
  · rw [h2]
    obtain ⟨e0, _, _⟩ := take_par r b
    rw [e0]
    have := off_bd (offs_mem ho hbm)
    rw [decide_eq_true (show 0 ≤ b.peer by omega), List.any_eq_true]
    exact ⟨b, hbm, by simp⟩

theorem take_same {r : Rte} {a b : Off} (h : befB a b = false) (k : befB b a = false) : takeF r a = takeF r b := by
  rw [bef_nif] at h k
  have e1 : a.seq = b.seq := by omega
  have e2 : a.rank + a.cost = b.rank + b.cost := by omega
  have e3 : a.peer = b.peer := by omega
  unfold takeF
  rw [e1, e2, e3]

theorem choose_same {r : Rte} {xs ys : List Off} (hv : rteB r = true) (hx : offsB xs = true) (hy : offsB ys = true) (h1 : ∀ y ∈ ys, y ∈ xs) (h2 : ∀ x ∈ xs, x.peer = (chooseF r xs).par → x ∈ ys) : chooseF r ys = chooseF r xs := by
  rcases choose_two hv hx with ⟨a1, a2⟩ | ⟨b, bm, b1, b3, b2⟩
  · rcases choose_two hv hy with ⟨_, c2⟩ | ⟨c, cm, c1, _, _⟩
    · rw [a2, c2]
    · rw [a1 c (h1 c cm)] at c1
      cases c1
  · have hb : b ∈ ys := h2 b bm (by rw [b2]; exact (take_par r b).1.symm)
    rcases choose_two hv hy with ⟨c1, _⟩ | ⟨c, cm, c1, c3, c2⟩
    · rw [c1 b hb] at b1
      cases b1
    · rw [b2, c2]
      exact take_same (b3 c (h1 c cm) c1) (c3 b hb b1)

theorem offs_sub {xs ys : List Off} (hx : offsB xs = true) (h1 : ∀ y ∈ ys, y ∈ xs) (hn : (ys.map Off.peer).Nodup) : offsB ys = true := by
  simp only [offsB, Bool.and_eq_true, decide_eq_true_eq, List.all_eq_true] at hx ⊢
  exact ⟨fun y hy => hx.1 y (h1 y hy), hn⟩

theorem choice_turned {r : Rte} {xs : List Off} (hv : rteB r = true) (hx : offsB xs = true) (k : Nat) : chooseF r (xs.drop k ++ xs.take k) = chooseF r xs := by
  have hm : ∀ y, y ∈ xs.drop k ++ xs.take k ↔ y ∈ xs := by
    intro y
    rw [List.mem_append, or_comm, ← List.mem_append, List.take_append_drop]
  have hp : (xs.drop k ++ xs.take k).Perm xs := by
    have := List.perm_append_comm (l₁ := xs.drop k) (l₂ := xs.take k)
    rwa [List.take_append_drop] at this
  have hn : (xs.map Off.peer).Nodup := by
    simp only [offsB, Bool.and_eq_true, decide_eq_true_eq] at hx
    exact hx.2
  exact choose_same hv hx (offs_sub hx (fun y hy => (hm y).1 hy) ((hp.map _).nodup_iff.2 hn)) (fun y hy => (hm y).1 hy) (fun x hx' _ => (hm x).2 hx')

theorem choice_fewer {r : Rte} {xs : List Off} (hv : rteB r = true) (hx : offsB xs = true) {i : Nat} {o : Off} (ho : xs[i]? = some o) (hp : o.peer ≠ (chooseF r xs).par) : chooseF r (xs.take i ++ xs.drop (i + 1)) = chooseF r xs := by
  have e : xs = xs.take i ++ o :: xs.drop (i + 1) := by
    obtain ⟨hlt, rfl⟩ := List.getElem?_eq_some_iff.1 ho
    rw [← List.drop_eq_getElem_cons hlt, List.take_append_drop]
  have hs : (xs.take i ++ xs.drop (i + 1)).Sublist xs := by
    conv => rhs; rw [e]
    exact List.Sublist.append (List.Sublist.refl _) (List.sublist_cons_self _ _)
  have hn : (xs.map Off.peer).Nodup := by
    simp only [offsB, Bool.and_eq_true, decide_eq_true_eq] at hx
    exact hx.2
  refine choose_same hv hx (offs_sub hx (fun y hy => hs.subset hy) ((hs.map _).nodup hn)) (fun y hy => hs.subset hy) (fun x hx' hxp => ?_)
  rw [e] at hx'
  rcases List.mem_append.1 hx' with h | h
  · exact List.mem_append_left _ h
  · rcases List.mem_cons.1 h with rfl | h
    · exact absurd hxp hp
    · exact List.mem_append_right _ h

end Go.Proofs.Ytefnjhdmpnfacaa
