/- Rows of what was heard and told, cell by cell; the four stores of an offer into a row. -/
import Derived.Test.YtefnjhdmpnfacaaMeshMem
namespace Go.Proofs.Ytefnjhdmpnfacaa
open Go.RowKit
set_option linter.unusedVariables false

theorem own_slot {w : World} {B g cap L sz : Nat} {e : TypeId} {xs : List Value} (h : w.ownsRow B e sz (.slice (some ⟨g, 0, none⟩) L cap) L xs) : ∀ j u, xs[j]? = some u → Slot w g j u := by
  intro j u hu
  rcases h.2 with ⟨h0, _⟩ | ⟨g', cap', cur, hv, hB, hg, hc, hm, hs, ht⟩
  · cases h0
  · cases hv
    have hj := (List.getElem?_eq_some_iff.1 hu).1
    have hj' : j < L * sz := by rw [← h.1]; exact hj
    rw [← ht, List.getElem?_take_of_lt hj'] at hu
    refine ⟨?_, ?_⟩
    · have : w.cell? ⟨g, j, none⟩ = cur[j]? := by simp [World.cell?, hg]
      rw [this]
      simpa using hu
    · simp [World.frozen?, hg]

theorem own_set {w : World} {B g cap L sz : Nat} {e : TypeId} {xs : List Value} (h : w.ownsRow B e sz (.slice (some ⟨g, 0, none⟩) L cap) L xs) (j : Nat) (u : Value) :
    (w.setCell ⟨g, j, none⟩ u).ownsRow B e sz (.slice (some ⟨g, 0, none⟩) L cap) L (xs.set j u) := by
  rcases h.2 with ⟨h0, _⟩ | ⟨g', cap', cur, hv, hB, hg, hc, hm, hs, ht⟩
  · cases h0
  · cases hv
    refine ⟨by rw [List.length_set]; exact h.1, .inr ⟨g, cap, cur.setIfInBounds j u, rfl, hB, ?_, hc, hm, by simpa using hs, ?_⟩⟩
    · simp [World.setCell, Array.getElem?_modify, hg]
    · rw [Array.toList_setIfInBounds, ← ht, List.take_set]

theorem offCells_set : ∀ (l : List Off) (k : Nat) (o : Off), k < l.length →
    ((((offCells l).set (k * 4) (.int .i64 o.peer)).set (k * 4 + 1) (.int .i64 o.seq)).set (k * 4 + 2) (.int .i64 o.rank)).set (k * 4 + 3) (.int .i64 o.cost) = offCells (l.set k o)
  | [], k, o, h => by simp at h
  | x :: l, 0, o, h => by simp [offCells]
  | x :: l, k + 1, o, h => by
    have ih := offCells_set l k o (by simpa using h)
    have e : ∀ (y : Off) (t : List Off), offCells (y :: t) = [.int .i64 y.peer, .int .i64 y.seq, .int .i64 y.rank, .int .i64 y.cost] ++ offCells t := fun _ _ => rfl
    have e4 : (k + 1) * 4 = k * 4 + 4 := by omega
    rw [List.set_cons_succ, e, e, ← ih, e4]
    simp [Nat.add_assoc]

/-- The four stores of an offer. -/
def setOff (w : World) (b o : Nat) (x : Off) : World :=
  (((w.setCell ⟨b, o, none⟩ (.int .i64 x.peer)).setCell ⟨b, o + 1, none⟩ (.int .i64 x.seq)).setCell ⟨b, o + 2, none⟩ (.int .i64 x.rank)).setCell ⟨b, o + 3, none⟩ (.int .i64 x.cost)
theorem own_setOff {w : World} {B g cap : Nat} {l : List Off} (h : w.ownsRow B 45 4 (.slice (some ⟨g, 0, none⟩) l.length cap) l.length (offCells l)) {k : Nat} (hk : k < l.length) (x : Off) :
    (setOff w g (k * 4) x).ownsRow B 45 4 (.slice (some ⟨g, 0, none⟩) l.length cap) (l.set k x).length (offCells (l.set k x)) := by
  rw [← offCells_set l k x hk, List.length_set]
  exact own_set (own_set (own_set (own_set h _ _) _ _) _ _) _ _
theorem far_setOff {C : Nat → Prop} {a w : World} (h : Far C a w) {b : Nat} (hb : C b ∨ a.heap.size ≤ b) (o : Nat) (x : Off) : Far C a (setOff w b o x) := by
  unfold setOff
  exact (((h.setCell (p := ⟨b, o, none⟩) hb _).setCell (p := ⟨b, o + 1, none⟩) hb _).setCell (p := ⟨b, o + 2, none⟩) hb _).setCell (p := ⟨b, o + 3, none⟩) hb _

section
variable {w w' : World} {B mb R T H cR cT cH n : Nat} {tv hv : Nat → Value} {lab : Nat → Nat} {G : Nat → Prop} {m : St}

structure OffAt (w : World) (b o : Nat) (x : Off) : Prop where
  c0 : Slot w b o (.int .i64 x.peer)
  c1 : Slot w b (o + 1) (.int .i64 x.seq)
  c2 : Slot w b (o + 2) (.int .i64 x.rank)
  c3 : Slot w b (o + 3) (.int .i64 x.cost)

/-- What i has heard: nothing, and nil; or a row. -/
theorem Mesh.heard_form (h : Mesh w B mb R T H cR cT cH n tv hv lab G m) {i : Nat} (hi : i < n) :
    (m.heard i = [] ∧ hv i = .slice none 0 0) ∨ ∃ g cap, hv i = .slice (some ⟨g, 0, none⟩) (m.heard i).length cap ∧ (m.heard i).length ≤ cap ∧ cap ≤ maxLen ∧ B ≤ g ∧ g < w.heap.size ∧ lab g = 2 * i + 5 ∧
      ∀ k x, (m.heard i)[k]? = some x → OffAt w g (k * 4) x := by
  have ho := h.hr i hi
  have hl := h.hl i hi
  rcases ho.2 with ⟨h1, h2⟩ | ⟨g, cap, cur, hv', hB, hg, hc, hm, hs, ht⟩
  · exact .inl ⟨List.eq_nil_of_length_eq_zero h2, h1⟩
  · rw [hv'] at ho hl
    refine .inr ⟨g, cap, hv', hc, hm, hB, (Array.getElem?_eq_some_iff.1 hg).1, hl g rfl, fun k x hx => ?_⟩
    obtain ⟨e0, e1, e2, e3⟩ := offCells_at _ _ _ hx
    exact ⟨own_slot ho _ _ e0, own_slot ho _ _ e1, own_slot ho _ _ e2, own_slot ho _ _ e3⟩

/-- What i has told, once it has told something. -/
theorem Mesh.told_form (h : Mesh w B mb R T H cR cT cH n tv hv lab G m) {i : Nat} (hi : i < n) (hp : 0 < (m.told i).length) :
    ∃ g cap, tv i = .slice (some ⟨g, 0, none⟩) (m.told i).length cap ∧ (m.told i).length ≤ cap ∧ cap ≤ maxLen ∧ B ≤ g ∧ g < w.heap.size ∧ lab g = 2 * i + 4 ∧
      ∀ k (x : Dst), (m.told i)[k]? = some x → Slot w g (k * 2) (.int .i64 x.s) ∧ Slot w g (k * 2 + 1) (.int .i64 x.r) := by
  have ho := h.tr i hi
  have hl := h.tl i hi
  rcases ho.2 with ⟨h1, h2⟩ | ⟨g, cap, cur, hv', hB, hg, hc, hm, hs, ht⟩
  · omega
  · rw [hv'] at ho hl
    refine ⟨g, cap, hv', hc, hm, hB, (Array.getElem?_eq_some_iff.1 hg).1, hl g rfl, fun k x hx => ?_⟩
    obtain ⟨e0, e1⟩ := dstCells_at _ _ _ hx
    exact ⟨own_slot ho _ _ e0, own_slot ho _ _ e1⟩

theorem Mesh.mine (h : Mesh w B mb R T H cR cT cH n tv hv lab G m) {i : Nat} (hi : i < n) : Mine w B (hv i) (m.heard i) := h.hr i hi
end

theorem info41 : (Try.prog.info? 41).map (fun i => (i.zero, i.size, i.bytes)) = some (some (.agg #[.int .i64 0, .int .i64 0]), 2, 16) := by kernel_rfl

/-- Behind an append of one to a row. -/
structure Grew (B : Nat) (e : TypeId) (sz : Nat) (v : Value) (w0 wA : World) (v' : Value) (n : Nat) (xs : List Value) : Prop where
  own : wA.ownsRow B e sz v' n xs
  grew : w0.grownBy wA v.ownBlock
  at_ : v'.ownBlock = v.ownBlock ∨ v'.ownBlock = some w0.heap.size

/-- Append of one distance to what was told, at the operation. -/
theorem step_tell {w : World} {o : Oper} {a : Act} {K : Act → World → Prop} {Q : Exit → Act → World → Prop} (s x : Operand)
    (ho : o.op = .call { callee := .builtin .append, args := #[s, x], argTypes := #[65, 65] })
    (B : Nat) (l : List Dst) (d : Dst) (v : Value) (hs : a.eval s = v) (hown : w.ownsRow B 41 2 v l.length (dstCells l)) (g c : Nat) (hx : a.eval x = .slice (some ⟨g, 0, none⟩) 1 c)
    (hat : w.cell? ⟨g, 0, none⟩ = some (.int .i64 d.s) ∧ w.cell? ⟨g, 1, none⟩ = some (.int .i64 d.r))
    (h63 : l.length ≤ 1000000) (hB : B ≤ w.heap.size) (h : ∀ v' w', Grew B 41 2 v w w' v' (l ++ [d]).length (dstCells (l ++ [d])) → K (a.put o.dst v') w') :
    Oper.wp Try.prog o a w K Q := by
  obtain ⟨i0, hi0, hz0, hz1, hz2⟩ := info_parts info41
  have hnews : ∀ (j : Nat) (u : Value), (dstCells [d])[j]? = some u → w.cell? ((⟨g, 0, none⟩ : Addr).add j) = some u := by
    intro j u hu
    match j, hu with
    | 0, hu => simp [dstCells] at hu; subst hu; simpa [Addr.add] using hat.1
    | 1, hu => simp [dstCells] at hu; subst hu; simpa [Addr.add] using hat.2
    | j + 2, hu => simp [dstCells] at hu
  obtain ⟨v', w', hr, h2, h3, h4, h5⟩ := run_append_own_at (P := Try.prog) w B 65 o.type 41 i0 _ 2 16 Try.underlying65 hi0 hz0 hz1 hz2 rfl (by omega) v l.length (dstCells l) hown ⟨g, 0, none⟩ 1 c (dstCells [d])
    (by rw [dstCells_len]; rfl) hnews (by simp [dstCells, Value.oneCell']) (by unfold maxLen; omega) (by omega) hB
  unfold Oper.wp execOp
  simp only [ho, resolve, invoke, builtin, Sem.run_bind, Sem.run_pure, Result.andThen_ok, List.map_toArray, List.map_cons, List.map_nil, hs, hx, hr]
  refine h v' w' ⟨?_, h3, h5⟩
  rw [List.length_append, List.length_singleton, dstCells_append]
  exact h2

/-- Append of one offer to what was heard. -/
theorem step_hear {w : World} {o : Oper} {a : Act} {K : Act → World → Prop} {Q : Exit → Act → World → Prop} (s x : Operand)
    (ho : o.op = .call { callee := .builtin .append, args := #[s, x], argTypes := #[37, 37] })
    (B : Nat) (l : List Off) (d : Off) (v : Value) (hs : a.eval s = v) (hown : w.ownsRow B 45 4 v l.length (offCells l)) (g c : Nat) (hx : a.eval x = .slice (some ⟨g, 0, none⟩) 1 c)
    (hat : OffsAt w g 0 [d])
    (h63 : l.length ≤ 1000000) (hB : B ≤ w.heap.size) (h : ∀ v' w', Grew B 45 4 v w w' v' (l ++ [d]).length (offCells (l ++ [d])) → K (a.put o.dst v') w') :
    Oper.wp Try.prog o a w K Q := by
  obtain ⟨i0, hi0, hz0, hz1, hz2⟩ := info_parts info45
  obtain ⟨v', w', hr, h2, h3, h4, h5⟩ := run_append_own_at (P := Try.prog) w B 37 o.type 45 i0 _ 4 32 Try.underlying37 hi0 hz0 hz1 hz2 rfl (by omega) v l.length (offCells l) hown ⟨g, 0, none⟩ 1 c (offCells [d])
    (by rw [offCells_len]; rfl) (offCells_news hat) (offCells_one _) (by unfold maxLen; omega) (by omega) hB
  unfold Oper.wp execOp
  simp only [ho, resolve, invoke, builtin, Sem.run_bind, Sem.run_pure, Result.andThen_ok, List.map_toArray, List.map_cons, List.map_nil, hs, hx, hr]
  refine h v' w' ⟨?_, h3, h5⟩
  rw [List.length_append, List.length_singleton, offCells_append]
  exact h2

theorem own_far {w w' : World} {B : Nat} {e : TypeId} {sz : Nat} {v : Value} {n : Nat} {xs : List Value} (h : w.ownsRow B e sz v n xs) (hf : Far (fun _ => False) w w') : w'.ownsRow B e sz v n xs :=
  ownsRow_same h (fun g _ hl => hf.block g hl id)
theorem offsAt_new (w : World) (p s r c : Int) : OffsAt (w.alloc (.cells #[.int .i64 p, .int .i64 s, .int .i64 r, .int .i64 c] 45)) w.heap.size 0 [⟨p, s, r, c⟩] := by
  intro k o ho
  match k, ho with
  | 0, ho =>
    simp at ho
    subst ho
    have h := Whole.new w 45 #[.int .i64 p, .int .i64 s, .int .i64 r, .int .i64 c]
    exact ⟨h.cell 0, h.cell 1, h.cell 2, h.cell 3⟩
  | k + 1, ho => simp at ho

/-- Behind the append to what was heard and the store of the slice. -/
theorem Mesh.heard_grew {w w0 wA : World} {B mb R T H cR cT cH n : Nat} {tv hv : Nat → Value} {lab : Nat → Nat} {G : Nat → Prop} {m : St} (h : Mesh w B mb R T H cR cT cH n tv hv lab G m) {i : Nat} (hi : i < n) {d : Off} {v v' : Value} (hv0 : hv i = v)
    (hf : Far (fun _ => False) w w0) (hg : Grew B 45 4 v w0 wA v' (m.heard i ++ [d]).length (offCells (m.heard i ++ [d]))) :
    MeshX (wA.setCell ⟨H, i, none⟩ v') B mb R T H cR cT cH n G { m with heard := upd m.heard i (m.heard i ++ [d]) } ∧ Far (fun b => some b = v.ownBlock) w wA ∧ Far (fun b => b = H ∨ some b = v.ownBlock) w (wA.setCell ⟨H, i, none⟩ v') := by
  subst hv0
  have hF : Far (fun b => some b = (hv i).ownBlock) w wA := (hf.mono (fun _ e => e.elim)).grown hg.grew (fun k e => .inl e.symm)
  refine ⟨(h.keep hf).heardv hi ((Far.refl _ _).grown hg.grew (fun k e => .inl e.symm)) _ hg.own ?_, hF, (hF.mono (fun _ e => .inr e)).setCell (p := ⟨H, i, none⟩) (.inl (.inl rfl)) _⟩
  intro g' hg'
  rcases hg.at_ with e | e
  · exact .inl (e ▸ hg')
  · rw [e] at hg'
    cases hg'
    exact .inr (Nat.le_refl _)
theorem Mesh.told_grew {w w0 wA : World} {B mb R T H cR cT cH n : Nat} {tv hv : Nat → Value} {lab : Nat → Nat} {G : Nat → Prop} {m : St} (h : Mesh w B mb R T H cR cT cH n tv hv lab G m) {i : Nat} (hi : i < n) {d : Dst} {v v' : Value} (hv0 : tv i = v)
    (hf : Far (fun _ => False) w w0) (hg : Grew B 41 2 v w0 wA v' (m.told i ++ [d]).length (dstCells (m.told i ++ [d]))) :
    MeshX (wA.setCell ⟨T, i, none⟩ v') B mb R T H cR cT cH n G { m with told := upd m.told i (m.told i ++ [d]) } ∧ Far (fun b => some b = v.ownBlock) w wA ∧ Far (fun b => b = T ∨ some b = v.ownBlock) w (wA.setCell ⟨T, i, none⟩ v') := by
  subst hv0
  have hF : Far (fun b => some b = (tv i).ownBlock) w wA := (hf.mono (fun _ e => e.elim)).grown hg.grew (fun k e => .inl e.symm)
  refine ⟨(h.keep hf).toldv hi ((Far.refl _ _).grown hg.grew (fun k e => .inl e.symm)) _ hg.own ?_, hF, (hF.mono (fun _ e => .inr e)).setCell (p := ⟨T, i, none⟩) (.inl (.inl rfl)) _⟩
  intro g' hg'
  rcases hg.at_ with e | e
  · exact .inl (e ▸ hg')
  · rw [e] at hg'
    cases hg'
    exact .inr (Nat.le_refl _)
theorem Mesh.row_low {w : World} {B mb R T H cR cT cH n : Nat} {tv hv : Nat → Value} {lab : Nat → Nat} {G : Nat → Prop} {m : St} (h : Mesh w B mb R T H cR cT cH n tv hv lab G m) {i : Nat} (hi : i < n) :
    (∀ b, b = H ∨ some b = (hv i).ownBlock → B ≤ b ∧ ¬ G b) ∧ (∀ b, b = T ∨ some b = (tv i).ownBlock → B ≤ b ∧ ¬ G b) := by
  obtain ⟨a0, a1, a2, a3⟩ := h.lows
  refine ⟨fun b hb => ?_, fun b hb => ?_⟩
  · rcases hb with rfl | hb
    · exact ⟨a3, h.gH⟩
    · exact ⟨((h.hr i hi).lt b hb.symm).1, h.free (by have := h.hl i hi b hb.symm; omega)⟩
  · rcases hb with rfl | hb
    · exact ⟨a2, h.gT⟩
    · exact ⟨((h.tr i hi).lt b hb.symm).1, h.free (by have := h.tl i hi b hb.symm; omega)⟩
theorem Mesh.row_ne {w : World} {B mb R T H cR cT cH n : Nat} {tv hv : Nat → Value} {lab : Nat → Nat} {G : Nat → Prop} {m : St} (h : Mesh w B mb R T H cR cT cH n tv hv lab G m) {i : Nat} (hi : i < n) :
    (some mb ≠ (hv i).ownBlock ∧ some R ≠ (hv i).ownBlock ∧ some T ≠ (hv i).ownBlock ∧ some H ≠ (hv i).ownBlock) ∧ (some mb ≠ (tv i).ownBlock ∧ some R ≠ (tv i).ownBlock ∧ some T ≠ (tv i).ownBlock ∧ some H ≠ (tv i).ownBlock) := by
  obtain ⟨l0, l1, l2, l3⟩ := h.labs
  have k1 := h.hl i hi
  have k2 := h.tl i hi
  refine ⟨⟨fun e => ?_, fun e => ?_, fun e => ?_, fun e => ?_⟩, ⟨fun e => ?_, fun e => ?_, fun e => ?_, fun e => ?_⟩⟩
  · have := k1 _ e.symm; omega
  · have := k1 _ e.symm; omega
  · have := k1 _ e.symm; omega
  · have := k1 _ e.symm; omega
  · have := k2 _ e.symm; omega
  · have := k2 _ e.symm; omega
  · have := k2 _ e.symm; omega
  · have := k2 _ e.symm; omega

end Go.Proofs.Ytefnjhdmpnfacaa
