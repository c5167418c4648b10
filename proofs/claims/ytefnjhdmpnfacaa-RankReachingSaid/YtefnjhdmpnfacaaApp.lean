/- Words for append of offers to a row that the call owns. -/
import Derived.Test.YtefnjhdmpnfacaaChoicePlain
import Derived.Maps.AppendAt
import Derived.Deep.AppendLies
namespace Go.Proofs.Ytefnjhdmpnfacaa
open Go.RowKit

theorem info45 : (Try.prog.info? 45).map (fun i => (i.zero, i.size, i.bytes)) = some (some (.agg #[.int .i64 0, .int .i64 0, .int .i64 0, .int .i64 0]), 4, 32) := by kernel_rfl

/-- Offers as one row of cells. -/
def offCells (l : List Off) : List Value := l.flatMap (fun o => [.int .i64 o.peer, .int .i64 o.seq, .int .i64 o.rank, .int .i64 o.cost])

theorem offCells_len (l : List Off) : (offCells l).length = l.length * 4 := by
  induction l with
  | nil => rfl
  | cons o l ih =>
    simp only [offCells, List.flatMap_cons, List.length_append, List.length_cons, List.length_nil] at ih ⊢
    omega

theorem offCells_append (a b : List Off) : offCells (a ++ b) = offCells a ++ offCells b := by simp [offCells]

theorem offCells_at : ∀ (l : List Off) (k : Nat) (o : Off), l[k]? = some o → (offCells l)[k * 4]? = some (.int .i64 o.peer) ∧ (offCells l)[k * 4 + 1]? = some (.int .i64 o.seq) ∧ (offCells l)[k * 4 + 2]? = some (.int .i64 o.rank) ∧ (offCells l)[k * 4 + 3]? = some (.int .i64 o.cost)
  | [], k, o, h => by simp at h
  | x :: l, 0, o, h => by
    simp at h
    subst h
    simp [offCells]
  | x :: l, k + 1, o, h => by
    have ih := offCells_at l k o (by simpa using h)
    have e : ∀ j, (offCells (x :: l))[(k + 1) * 4 + j]? = (offCells l)[k * 4 + j]? := by
      intro j
      have : offCells (x :: l) = [.int .i64 x.peer, .int .i64 x.seq, .int .i64 x.rank, .int .i64 x.cost] ++ offCells l := rfl
      rw [this, List.getElem?_append_right (by simp; omega)]
      congr 1
      simp
      omega
    exact ⟨(e 0).trans ih.1, (e 1).trans ih.2.1, (e 2).trans ih.2.2.1, (e 3).trans ih.2.2.2⟩

theorem offCells_news {w : World} {b off : Nat} {l : List Off} (h : OffsAt w b off l) : ∀ j u, (offCells l)[j]? = some u → w.cell? ((⟨b, off, none⟩ : Addr).add j) = some u := by
  intro j u hu
  have hj : j < l.length * 4 := by
    have := (List.getElem?_eq_some_iff.1 hu).1
    rwa [offCells_len] at this
  have hk : j / 4 < l.length := by omega
  have ho : l[j / 4]? = some l[j / 4] := List.getElem?_eq_getElem hk
  obtain ⟨c0, c1, c2, c3⟩ := h _ _ ho
  obtain ⟨e0, e1, e2, e3⟩ := offCells_at _ _ _ ho
  rw [Go.WideShapes.add_plain]
  have hm : j = j / 4 * 4 ∨ j = j / 4 * 4 + 1 ∨ j = j / 4 * 4 + 2 ∨ j = j / 4 * 4 + 3 := by omega
  rcases hm with hm | hm | hm | hm
  · rw [hm] at hu ⊢; rw [e0] at hu; cases hu; exact c0
  · rw [hm] at hu ⊢; rw [e1] at hu; cases hu; rw [← Nat.add_assoc]; exact c1
  · rw [hm] at hu ⊢; rw [e2] at hu; cases hu; rw [← Nat.add_assoc]; exact c2
  · rw [hm] at hu ⊢; rw [e3] at hu; cases hu; rw [← Nat.add_assoc]; exact c3

theorem offCells_one (l : List Off) : ∀ u ∈ offCells l, u.oneCell' = true := by
  intro u hu
  simp only [offCells, List.mem_flatMap] at hu
  obtain ⟨o, _, h⟩ := hu
  simp at h
  rcases h with rfl | rfl | rfl | rfl <;> rfl

/-- A row that the call owns since it had B blocks. -/
def Mine (w : World) (B : Nat) (v : Value) (ys : List Off) : Prop := w.ownsRow B 45 4 v ys.length (offCells ys)

theorem Mine.below {w w1 : World} {B C : Nat} {v : Value} {ys : List Off} (h : Mine w B v ys) (hb : Below C w w1) (hC : C = w.heap.size) : Mine w1 B v ys := by
  subst hC
  rcases h with ⟨h1, h2 | ⟨g, cap, cur, hv, hB, hg, h3⟩⟩
  · exact ⟨h1, .inl h2⟩
  · have hlt : g < w.heap.size := by
      rcases Nat.lt_or_ge g w.heap.size with hlt | hge
      · exact hlt
      · rw [Array.getElem?_eq_none hge] at hg; cases hg
    exact ⟨h1, .inr ⟨g, cap, cur, hv, hB, (hb.block g hlt).trans hg, h3⟩⟩

theorem Mine.offs {w : World} {B : Nat} {v : Value} {ys : List Off} (h : Mine w B v ys) : ∃ A cap, v = .slice A ys.length cap ∧ Offs w A ys.length ys := by
  rcases h with ⟨h1, ⟨h2, h3⟩ | ⟨g, cap, cur, hv, hB, hg, hc, hm, hs, ht⟩⟩
  · exact ⟨none, 0, by rw [h3]; exact h2, rfl, fun hp => by omega⟩
  · refine ⟨some ⟨g, 0, none⟩, cap, hv, rfl, fun _ => ⟨g, 0, rfl, ?_, fun k o ho => ?_⟩⟩
    · rcases Nat.lt_or_ge g w.heap.size with hlt | hge
      · exact hlt
      · rw [Array.getElem?_eq_none hge] at hg; cases hg
    · obtain ⟨e0, e1, e2, e3⟩ := offCells_at _ _ _ ho
      have hcell : ∀ j u, (offCells ys)[j]? = some u → w.cell? ⟨g, j, none⟩ = some u := by
        intro j u hu
        have hj := (List.getElem?_eq_some_iff.1 hu).1
        rw [offCells_len] at hj
        rw [← ht, List.getElem?_take_of_lt hj] at hu
        have : w.cell? ⟨g, j, none⟩ = cur[j]? := by simp [World.cell?, hg]
        rw [this]
        simpa using hu
      simp only [Nat.zero_add]
      exact ⟨hcell _ _ e0, hcell _ _ e1, hcell _ _ e2, hcell _ _ e3⟩

theorem OffsAt.take {w : World} {b off : Nat} {xs : List Off} (h : OffsAt w b off xs) (k : Nat) : OffsAt w b off (xs.take k) := fun i o ho => by
  have hi : i < k := by
    have := (List.getElem?_eq_some_iff.1 ho).1
    simp at this; omega
  rw [List.getElem?_take_of_lt hi] at ho
  exact h i o ho

theorem OffsAt.drop {w : World} {b off : Nat} {xs : List Off} (h : OffsAt w b off xs) (k : Nat) : OffsAt w b (off + k * 4) (xs.drop k) := fun i o ho => by
  rw [List.getElem?_drop] at ho
  have := h (k + i) o ho
  have e : off + k * 4 + i * 4 = off + (k + i) * 4 := by omega
  rw [e]
  exact this

theorem step_app {w : World} {ops : Array Oper} {o : Oper} {a : Act} {K : Act → World → Prop} {Q : Exit → Act → World → Prop} {E : Prop} (hgd : o.guard = none) (s x : Operand)
    (ho : o.op = .call { callee := .builtin .append, args := #[s, x], argTypes := #[37, 37] })
    (B : Nat) (ys news : List Off) (v : Value) (hs : a.eval s = v) (hown : Mine w B v ys) (b off m c : Nat) (hx : a.eval x = .slice (some ⟨b, off, none⟩) m c) (hm : news.length = m) (hat : OffsAt w b off news)
    (h63 : ys.length + m ≤ 1000000) (hB : B ≤ w.heap.size) (h : ∀ v' w', Mine w' B v' (ys ++ news) → Below B w w' → K (a.put o.dst v') w') :
    if Region.wanted o (yielded ops a.tmps) = true then Oper.wp Try.prog o a w K Q else E := by
  have hw : Region.wanted o (yielded ops a.tmps) = true := by simp [Region.wanted, hgd]
  rw [if_pos hw]
  obtain ⟨i0, hi0, hz0, hz1, hz2⟩ := info_parts info45
  obtain ⟨v', w', hr, h2, h3, h4, h5⟩ := run_append_own_at (P := Try.prog) w B 37 o.type 45 i0 _ 4 32 Try.underlying37 hi0 hz0 hz1 hz2 rfl (by omega) v ys.length (offCells ys) hown ⟨b, off, none⟩ m c (offCells news)
    (by rw [offCells_len, hm]) (offCells_news hat) (offCells_one _) (by unfold maxLen; omega) (by omega) hB
  have hrow : ∀ k, v.ownBlock = some k → B ≤ k := by
    intro k hk
    rcases hown with ⟨_, ⟨h2, _⟩ | ⟨g, cap, cur, hv, hBg, _⟩⟩
    · rw [h2] at hk; cases hk
    · rw [hv] at hk; simp [Value.ownBlock] at hk; omega
  unfold Oper.wp execOp
  simp only [ho, resolve, invoke, builtin, Sem.run_bind, Sem.run_pure, Result.andThen_ok, List.map_toArray, List.map_cons, List.map_nil, hs, hx, hr]
  refine h v' w' ?_ ⟨h3.os, h3.tape, h3.output, h3.size, fun k hk => h3.block k (by omega) (fun e => ?_)⟩
  · unfold Mine
    rw [List.length_append, hm, offCells_append]
    exact h2
  · have := hrow k e.symm
    omega

end Go.Proofs.Ytefnjhdmpnfacaa
