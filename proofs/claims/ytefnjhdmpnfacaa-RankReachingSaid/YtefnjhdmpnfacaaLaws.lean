/- Plain laws of what is chosen: the first of the possible offers; and Choose and Renew with the result as a variable. -/
import Derived.Test.YtefnjhdmpnfacaaHead
import Derived.Test.YtefnjhdmpnfacaaOffers
namespace Go.Proofs.Ytefnjhdmpnfacaa
open Go.RowKit

theorem bef_iff {a b : Off} : befB a b = true ↔ (b.seq < a.seq ∨ (a.seq = b.seq ∧ a.rank + a.cost < b.rank + b.cost)) ∨ ((a.seq = b.seq ∧ a.rank + a.cost = b.rank + b.cost) ∧ a.peer < b.peer) := by
  simp only [befB, betB, Bool.or_eq_true, Bool.and_eq_true, decide_eq_true_eq]
theorem bef_nif {a b : Off} : befB a b = false ↔ ¬ ((b.seq < a.seq ∨ (a.seq = b.seq ∧ a.rank + a.cost < b.rank + b.cost)) ∨ ((a.seq = b.seq ∧ a.rank + a.cost = b.rank + b.cost) ∧ a.peer < b.peer)) := by
  rw [← bef_iff, Bool.not_eq_true]
theorem bef_trans {a b c : Off} (h : befB a b = false) (k : befB b c = false) : befB a c = false := by
  rw [bef_nif] at h k ⊢; omega
theorem bef_irr (a : Off) : befB a a = false := by rw [bef_nif]; omega
theorem bef_asymm {a b : Off} (h : befB a b = true) : befB b a = false := by rw [bef_iff] at h; rw [bef_nif]; omega
theorem poss_iff {r : Rte} {o : Off} : possB r o = true ↔ o.rank + o.cost < 1000000 ∧ ((r.ls < o.seq ∨ (o.seq = r.ls ∧ o.rank < r.lr)) ∨ (o.peer = r.par ∧ r.os ≤ o.seq)) := by
  simp only [possB, betB, Bool.or_eq_true, Bool.and_eq_true, decide_eq_true_eq]

theorem fold_none {r : Rte} : ∀ (l : List Off) (best : Option Off), l.foldl (pick r) best = none → best = none ∧ ∀ x ∈ l, possB r x = false
  | [], _, h => ⟨h, fun _ hx => by cases hx⟩
  | o :: l, best, h => by
    obtain ⟨h1, h2⟩ := fold_none l _ h
    unfold pick at h1
    split at h1
    · split at h1
      · cases h1
      · split at h1 <;> cases h1
    · next hp =>
      refine ⟨h1, fun x hx => ?_⟩
      rcases List.mem_cons.1 hx with rfl | hx
      · simpa using hp
      · exact h2 x hx

theorem fold_some {r : Rte} : ∀ (l : List Off) (best : Option Off) (b : Off), (∀ c, best = some c → possB r c = true) → l.foldl (pick r) best = some b →
    possB r b = true ∧ (∀ c, best = some c → befB c b = false) ∧ ∀ x ∈ l, possB r x = true → befB x b = false
  | [], best, b, hp, h => ⟨hp b h, fun c hc => by rw [show best = some b from h] at hc; cases hc; exact bef_irr _, fun _ hx => by cases hx⟩
  | o :: l, best, b, hp, h => by
    have hp' : ∀ c, pick r best o = some c → possB r c = true := by
      intro c hc
      unfold pick at hc
      split at hc
      · next ho =>
        split at hc
        · cases hc; exact ho
        · next c0 => split at hc <;> (cases hc; first | exact ho | exact hp _ rfl)
      · exact hp c hc
    obtain ⟨h1, h2, h3⟩ := fold_some l _ b hp' h
    refine ⟨h1, fun c hc => ?_, fun x hx hpx => ?_⟩
    · subst hc
      by_cases ho : possB r o = true
      · by_cases hb : befB o c = true
        · have := h2 o (by simp [pick, ho, hb])
          exact bef_trans (bef_asymm hb) this
        · exact h2 c (by simp [pick, ho, hb])
      · exact h2 c (by simp [pick, ho])
    · rcases List.mem_cons.1 hx with rfl | hx
      · match best with
        | none => exact h2 x (by simp [pick, hpx])
        | some c =>
          by_cases hb : befB x c = true
          · exact h2 x (by simp [pick, hpx, hb])
          · exact bef_trans (by simpa using hb) (h2 c (by simp [pick, hpx, hb]))
      · exact h3 x hx hpx

theorem first_none {r : Rte} {l : List Off} (h : firstF r l = none) : ∀ x ∈ l, possB r x = false := (fold_none l none h).2
theorem first_some {r : Rte} {l : List Off} {b : Off} (h : firstF r l = some b) : b ∈ l ∧ possB r b = true ∧ ∀ x ∈ l, possB r x = true → befB x b = false := by
  obtain ⟨h1, _, h3⟩ := fold_some l none b (fun _ h => by cases h) h
  refine ⟨?_, h1, h3⟩
  rcases foldl_mem l none b h with h | h
  · exact h
  · cases h

theorem offs_mem {xs : List Off} (h : offsB xs = true) {o : Off} (ho : o ∈ xs) : offB o = true := by
  simp only [offsB, Bool.and_eq_true, List.all_eq_true] at h
  exact h.1 o ho

/-- Choose, of a valid route and valid offers. -/
theorem choose_two {r : Rte} {xs : List Off} (hr : rteB r = true) (hx : offsB xs = true) :
    ((∀ x ∈ xs, possB r x = false) ∧ chooseF r xs = ⟨r.os, 1000000, r.ls, r.lr, -1⟩) ∨
    ∃ b ∈ xs, possB r b = true ∧ (∀ x ∈ xs, possB r x = true → befB x b = false) ∧ chooseF r xs = takeF r b := by
  unfold chooseF
  rw [if_pos ⟨hr, hx⟩]
  match hf : firstF r xs with
  | none => exact .inl ⟨first_none hf, rfl⟩
  | some b => obtain ⟨h1, h2, h3⟩ := first_some hf; exact .inr ⟨b, h1, h2, h3, rfl⟩

theorem choose_v (a b c d e : Int) (n : Rte) (xs : List Off) (A : Option Addr) (len cap : Nat) (w : World) (hx : Offs w A len xs) (hlen : len ≤ 1000000) (h : n = chooseF ⟨a, b, c, d, e⟩ xs) :
    Calls Try.prog 18 #[.agg #[.int .i64 a, .int .i64 b, .int .i64 c, .int .i64 d, .int .i64 e], .slice A len cap] w fun x w' => x = .returned (.agg #[.int .i64 n.os, .int .i64 n.orr, .int .i64 n.ls, .int .i64 n.lr, .int .i64 n.par]) ∧ Below w.heap.size w w' := by
  have k := choose_is ⟨a, b, c, d, e⟩ xs A len cap w hx hlen
  rw [← h] at k
  exact k

theorem renew_v (a b c d e s : Int) (n : Rte) (w : World) (h : n = renewF ⟨a, b, c, d, e⟩ s) :
    Calls Try.prog 25 #[.agg #[.int .i64 a, .int .i64 b, .int .i64 c, .int .i64 d, .int .i64 e], .int .i64 s] w fun x w' => x = .returned (.agg #[.int .i64 n.os, .int .i64 n.orr, .int .i64 n.ls, .int .i64 n.lr, .int .i64 n.par]) ∧ Below w.heap.size w w' := by
  have k := renew_is ⟨a, b, c, d, e⟩ s w
  rw [← h] at k
  exact k

end Go.Proofs.Ytefnjhdmpnfacaa
