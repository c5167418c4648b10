/- The mesh in memory: a struct of three slices; rows of routes; rows of slices of what was told and heard, no two in one block; what each kind of write leaves. -/
import Derived.Test.YtefnjhdmpnfacaaMeshPlain
import Derived.Test.YtefnjhdmpnfacaaApp
namespace Go.Proofs.Ytefnjhdmpnfacaa
open Go.RowKit
set_option linter.unusedVariables false

/-- w' is w but for new blocks and the blocks of C. -/
structure Far (C : Nat → Prop) (w w' : World) : Prop where
  os : w'.os = w.os
  tape : w'.tape = w.tape
  output : w'.output = w.output
  size : w.heap.size ≤ w'.heap.size
  block : ∀ k, k < w.heap.size → ¬ C k → w'.heap[k]? = w.heap[k]?

section
variable {C : Nat → Prop} {a w w' : World}
theorem Far.refl (C : Nat → Prop) (w : World) : Far C w w := ⟨rfl, rfl, rfl, Nat.le_refl _, fun _ _ _ => rfl⟩
theorem Far.trans {x y z : World} (h : Far C x y) (k : Far C y z) : Far C x z :=
  ⟨k.os.trans h.os, k.tape.trans h.tape, k.output.trans h.output, Nat.le_trans h.size k.size, fun i hi hc => (k.block i (Nat.lt_of_lt_of_le hi h.size) hc).trans (h.block i hi hc)⟩
theorem Far.drew (h : Far C a w) : Far C a w.drew := ⟨h.os, h.tape, h.output, h.size, h.block⟩
theorem Far.drewN (h : Far C a w) (n : Nat) : Far C a (w.drewN n) := ⟨h.os, h.tape, h.output, h.size, h.block⟩
theorem Far.alloc (h : Far C a w) (o : Obj) : Far C a (w.alloc o) :=
  h.trans ⟨rfl, rfl, rfl, by simp, fun k hk _ => Below.heap_alloc _ _ _ hk⟩
theorem Far.setCell (h : Far C a w) {p : Addr} (hp : C p.block ∨ a.heap.size ≤ p.block) (u : Value) : Far C a (w.setCell p u) :=
  ⟨h.os, h.tape, h.output, by rw [show (w.setCell p u).heap.size = w.heap.size by simp [World.setCell]]; exact h.size, fun k hk hc => by
    rw [Below.heap_setCell _ _ _ _ (by rintro rfl; exact hp.elim hc (fun h1 => by omega))]
    exact h.block k hk hc⟩
theorem Far.below (h : Far C a w) (hb : Below w.heap.size w w') : Far C a w' :=
  h.trans ⟨hb.os, hb.tape, hb.output, hb.size, fun k hk _ => hb.block k hk⟩
theorem Far.grown (h : Far C a w) {row : Option Nat} (hg : w.grownBy w' row) (hr : ∀ k, row = some k → C k ∨ a.heap.size ≤ k) : Far C a w' :=
  ⟨hg.os.trans h.os, hg.tape.trans h.tape, hg.output.trans h.output, Nat.le_trans h.size hg.size, fun k hk hc => (hg.block k (Nat.lt_of_lt_of_le hk h.size) (fun e => (hr k e.symm).elim hc (fun h1 => by omega))).trans (h.block k hk hc)⟩
theorem Far.cell (h : Far C w w') {p : Addr} (hl : p.block < w.heap.size) (hc : ¬ C p.block) : w'.cell? p = w.cell? p := World.cell?_of_block (w := w) (h.block _ hl hc)
theorem Far.frozen (h : Far C w w') {p : Addr} (hl : p.block < w.heap.size) (hc : ¬ C p.block) : w'.frozen? p = w.frozen? p := World.frozen?_of_block (w := w) (h.block _ hl hc)
theorem Far.mono {D : Nat → Prop} (h : Far C w w') (hd : ∀ k, C k → D k) : Far D w w' := ⟨h.os, h.tape, h.output, h.size, fun k hk hc => h.block k hk (fun e => hc (hd k e))⟩
theorem Far.to_below {B : Nat} (h : Far C w w') (hB : B ≤ w.heap.size) (hc : ∀ k, C k → B ≤ k) : Below B w w' := ⟨h.os, h.tape, h.output, h.size, fun k hk => h.block k (by omega) (fun e => by have := hc k e; omega)⟩
end

/-- What the call owns reads as it did where its block does. -/
theorem ownsRow_same {w w' : World} {B : Nat} {e : TypeId} {sz : Nat} {v : Value} {n : Nat} {xs : List Value} (h : w.ownsRow B e sz v n xs) (hs : ∀ g, v.ownBlock = some g → g < w.heap.size → w'.heap[g]? = w.heap[g]?) : w'.ownsRow B e sz v n xs := by
  obtain ⟨h1, h2⟩ := h
  refine ⟨h1, ?_⟩
  rcases h2 with h2 | ⟨g, cap, cur, hv, hg, hh, r⟩
  · exact .inl h2
  · refine .inr ⟨g, cap, cur, hv, hg, ?_, r⟩
    rw [hs g (by rw [hv]; rfl) (Array.getElem?_eq_some_iff.1 hh).1]
    exact hh

def dstCells (l : List Dst) : List Value := l.flatMap (fun d => [.int .i64 d.s, .int .i64 d.r])
theorem dstCells_append (a b : List Dst) : dstCells (a ++ b) = dstCells a ++ dstCells b := by simp [dstCells]
theorem dstCells_one (d : Dst) : dstCells [d] = [.int .i64 d.s, .int .i64 d.r] := rfl
theorem dstCells_len (l : List Dst) : (dstCells l).length = l.length * 2 := by
  induction l with
  | nil => rfl
  | cons o l ih =>
    simp only [dstCells, List.flatMap_cons, List.length_append, List.length_cons, List.length_nil] at ih ⊢
    omega
theorem dstCells_at : ∀ (l : List Dst) (k : Nat) (d : Dst), l[k]? = some d → (dstCells l)[k * 2]? = some (.int .i64 d.s) ∧ (dstCells l)[k * 2 + 1]? = some (.int .i64 d.r)
  | [], k, d, h => by simp at h
  | x :: l, 0, d, h => by
    simp at h
    subst h
    simp [dstCells]
  | x :: l, k + 1, d, h => by
    have ih := dstCells_at l k d (by simpa using h)
    have e : ∀ j, (dstCells (x :: l))[(k + 1) * 2 + j]? = (dstCells l)[k * 2 + j]? := by
      intro j
      have : dstCells (x :: l) = [.int .i64 x.s, .int .i64 x.r] ++ dstCells l := rfl
      rw [this, List.getElem?_append_right (by simp; omega)]
      congr 1
      simp
      omega
    exact ⟨(e 0).trans ih.1, (e 1).trans ih.2⟩

/-- A cell that can be written. -/
structure Slot (w : World) (b o : Nat) (v : Value) : Prop where
  cell : w.cell? ⟨b, o, none⟩ = some v
  free : w.frozen? ⟨b, o, none⟩ = false
theorem Slot.lt {w : World} {b o : Nat} {v : Value} (h : Slot w b o v) : b < w.heap.size := World.block_lt_of_cell? w ⟨b, o, none⟩ h.cell
theorem Slot.far {C : Nat → Prop} {w w' : World} {b o : Nat} {v : Value} (h : Slot w b o v) (hf : Far C w w') (hc : ¬ C b) : Slot w' b o v :=
  ⟨(hf.cell (p := ⟨b, o, none⟩) h.lt hc).trans h.cell, (hf.frozen (p := ⟨b, o, none⟩) h.lt hc).trans h.free⟩
theorem Slot.set {w : World} {b o : Nat} {v : Value} (h : Slot w b o v) (u : Value) : Slot (w.setCell ⟨b, o, none⟩ u) b o u :=
  ⟨World.cell?_setCell_same _ _ _ h.cell, by rw [World.frozen?_setCell]; exact h.free⟩
theorem Slot.other {w : World} {b o : Nat} {v : Value} (h : Slot w b o v) {p : Addr} (hp : p ≠ ⟨b, o, none⟩) (u : Value) : Slot (w.setCell p u) b o v :=
  ⟨(World.cell?_setCell_other _ _ _ _ hp).trans h.cell, by rw [World.frozen?_setCell]; exact h.free⟩
theorem Slot.off {w : World} {b o g j : Nat} {v : Value} (h : Slot w b o v) (hp : g ≠ b ∨ j ≠ o) (u : Value) : Slot (w.setCell ⟨g, j, none⟩ u) b o v :=
  h.other (fun e => by cases e; rcases hp with hp | hp <;> exact hp rfl) u

/-- A route as five cells. -/
structure RtAt (w : World) (b o : Nat) (r : Rte) : Prop where
  c0 : Slot w b o (.int .i64 r.os)
  c1 : Slot w b (o + 1) (.int .i64 r.orr)
  c2 : Slot w b (o + 2) (.int .i64 r.ls)
  c3 : Slot w b (o + 3) (.int .i64 r.lr)
  c4 : Slot w b (o + 4) (.int .i64 r.par)
theorem RtAt.far {C : Nat → Prop} {w w' : World} {b o : Nat} {r : Rte} (h : RtAt w b o r) (hf : Far C w w') (hc : ¬ C b) : RtAt w' b o r :=
  ⟨h.c0.far hf hc, h.c1.far hf hc, h.c2.far hf hc, h.c3.far hf hc, h.c4.far hf hc⟩
/-- The five stores of a route. -/
def setRt (w : World) (b o : Nat) (r : Rte) : World :=
  ((((w.setCell ⟨b, o, none⟩ (.int .i64 r.os)).setCell ⟨b, o + 1, none⟩ (.int .i64 r.orr)).setCell ⟨b, o + 2, none⟩ (.int .i64 r.ls)).setCell ⟨b, o + 3, none⟩ (.int .i64 r.lr)).setCell ⟨b, o + 4, none⟩ (.int .i64 r.par)
theorem RtAt.set {w : World} {b o : Nat} {r : Rte} (h : RtAt w b o r) (q : Rte) : RtAt (setRt w b o q) b o q := by
  unfold setRt
  refine ⟨?_, ?_, ?_, ?_, ?_⟩
  · exact ((((h.c0.set _).off (.inr (by omega)) _).off (.inr (by omega)) _).off (.inr (by omega)) _).off (.inr (by omega)) _
  · exact ((((h.c1.off (.inr (by omega)) _).set _).off (.inr (by omega)) _).off (.inr (by omega)) _).off (.inr (by omega)) _
  · exact ((((h.c2.off (.inr (by omega)) _).off (.inr (by omega)) _).set _).off (.inr (by omega)) _).off (.inr (by omega)) _
  · exact ((((h.c3.off (.inr (by omega)) _).off (.inr (by omega)) _).off (.inr (by omega)) _).set _).off (.inr (by omega)) _
  · exact ((((h.c4.off (.inr (by omega)) _).off (.inr (by omega)) _).off (.inr (by omega)) _).off (.inr (by omega)) _).set _
theorem Slot.setRt {w : World} {b o g j : Nat} {v : Value} (h : Slot w b o v) (q : Rte) (hp : g ≠ b ∨ o < j ∨ j + 5 ≤ o) : Slot (setRt w g j q) b o v := by
  unfold Ytefnjhdmpnfacaa.setRt
  exact ((((h.off (by omega) _).off (by omega) _).off (by omega) _).off (by omega) _).off (by omega) _
theorem RtAt.other {w : World} {b o g j : Nat} {r : Rte} (h : RtAt w b o r) (q : Rte) (hp : g ≠ b ∨ o + 5 ≤ j ∨ j + 5 ≤ o) : RtAt (setRt w g j q) b o r :=
  ⟨h.c0.setRt q (by omega), h.c1.setRt q (by omega), h.c2.setRt q (by omega), h.c3.setRt q (by omega), h.c4.setRt q (by omega)⟩
theorem far_setRt {C : Nat → Prop} {a w : World} (h : Far C a w) {b : Nat} (hb : C b ∨ a.heap.size ≤ b) (o : Nat) (q : Rte) : Far C a (setRt w b o q) := by
  unfold setRt
  exact ((((h.setCell (p := ⟨b, o, none⟩) hb _).setCell (p := ⟨b, o + 1, none⟩) hb _).setCell (p := ⟨b, o + 2, none⟩) hb _).setCell (p := ⟨b, o + 3, none⟩) hb _).setCell (p := ⟨b, o + 4, none⟩) hb _

/-- The mesh m of n nodes at block mb; tv, hv: the slices of what was told and heard; lab: whose each block is. -/
structure Mesh (w : World) (B mb R T H cR cT cH n : Nat) (tv hv : Nat → Value) (lab : Nat → Nat) (G : Nat → Prop) (m : St) : Prop where
  s0 : Slot w mb 0 (.slice (some ⟨R, 0, none⟩) n cR)
  s1 : Slot w mb 1 (.slice (some ⟨T, 0, none⟩) n cT)
  s2 : Slot w mb 2 (.slice (some ⟨H, 0, none⟩) n cH)
  caps : n ≤ cR ∧ n ≤ cT ∧ n ≤ cH
  lows : B ≤ mb ∧ B ≤ R ∧ B ≤ T ∧ B ≤ H
  labs : lab mb = 0 ∧ lab R = 1 ∧ lab T = 2 ∧ lab H = 3
  rt : ∀ i, i < n → RtAt w R (i * 5) (m.rs i)
  th : ∀ i, i < n → Slot w T i (tv i)
  hh : ∀ i, i < n → Slot w H i (hv i)
  tr : ∀ i, i < n → w.ownsRow B 41 2 (tv i) (m.told i).length (dstCells (m.told i))
  hr : ∀ i, i < n → w.ownsRow B 45 4 (hv i) (m.heard i).length (offCells (m.heard i))
  tl : ∀ i, i < n → ∀ g, (tv i).ownBlock = some g → lab g = 2 * i + 4
  hl : ∀ i, i < n → ∀ g, (hv i).ownBlock = some g → lab g = 2 * i + 5
  gd : ∀ k, G k → k < w.heap.size ∧ 2 * n + 4 ≤ lab k

def MeshX (w : World) (B mb R T H cR cT cH n : Nat) (G : Nat → Prop) (m : St) : Prop := ∃ tv hv lab, Mesh w B mb R T H cR cT cH n tv hv lab G m

section
variable {w w' : World} {B mb R T H cR cT cH n : Nat} {tv hv : Nat → Value} {lab : Nat → Nat} {G : Nat → Prop} {m : St}

/-- A world where all of the mesh's blocks are as they were. -/
theorem Mesh.far {C : Nat → Prop} (h : Mesh w B mb R T H cR cT cH n tv hv lab G m) (hf : Far C w w') (hc : ∀ k, C k → 2 * n + 4 ≤ lab k) : Mesh w' B mb R T H cR cT cH n tv hv lab G m := by
  have nc : ∀ k, lab k < 2 * n + 4 → ¬ C k := fun k hk e => by have := hc k e; omega
  obtain ⟨l0, l1, l2, l3⟩ := h.labs
  exact ⟨h.s0.far hf (nc _ (by omega)), h.s1.far hf (nc _ (by omega)), h.s2.far hf (nc _ (by omega)), h.caps, h.lows, h.labs, fun i hi => (h.rt i hi).far hf (nc _ (by omega)), fun i hi => (h.th i hi).far hf (nc _ (by omega)),
    fun i hi => (h.hh i hi).far hf (nc _ (by omega)), fun i hi => ownsRow_same (h.tr i hi) (fun g hg hl => hf.block g hl (nc _ (by have := h.tl i hi g hg; omega))),
    fun i hi => ownsRow_same (h.hr i hi) (fun g hg hl => hf.block g hl (nc _ (by have := h.hl i hi g hg; omega))), h.tl, h.hl, fun k hk => ⟨Nat.lt_of_lt_of_le (h.gd k hk).1 hf.size, (h.gd k hk).2⟩⟩
theorem Mesh.keep (h : Mesh w B mb R T H cR cT cH n tv hv lab G m) (hf : Far (fun _ => False) w w') : Mesh w' B mb R T H cR cT cH n tv hv lab G m := h.far hf (fun _ e => e.elim)
theorem Mesh.below (h : Mesh w B mb R T H cR cT cH n tv hv lab G m) (hb : Below w.heap.size w w') : Mesh w' B mb R T H cR cT cH n tv hv lab G m := h.keep ((Far.refl _ _).below hb)
theorem MeshX.keep (h : MeshX w B mb R T H cR cT cH n G m) (hf : Far (fun _ => False) w w') : MeshX w' B mb R T H cR cT cH n G m := by
  obtain ⟨tv, hv, lab, h⟩ := h
  exact ⟨tv, hv, lab, h.keep hf⟩
theorem MeshX.below (h : MeshX w B mb R T H cR cT cH n G m) (hb : Below w.heap.size w w') : MeshX w' B mb R T H cR cT cH n G m := h.keep ((Far.refl _ _).below hb)

theorem Mesh.ne (h : Mesh w B mb R T H cR cT cH n tv hv lab G m) : mb ≠ R ∧ mb ≠ T ∧ mb ≠ H ∧ R ≠ T ∧ R ≠ H ∧ T ≠ H := by
  obtain ⟨l0, l1, l2, l3⟩ := h.labs
  refine ⟨?_, ?_, ?_, ?_, ?_, ?_⟩ <;> (rintro rfl; omega)

/-- The route i is written. -/
theorem Mesh.route (h : Mesh w B mb R T H cR cT cH n tv hv lab G m) {i : Nat} (hi : i < n) (r : Rte) : Mesh (setRt w R (i * 5) r) B mb R T H cR cT cH n tv hv lab G { m with rs := upd m.rs i r } := by
  obtain ⟨e1, e2, e3, e4, e5, e6⟩ := h.ne
  have hf := far_setRt (C := fun k => k = R) (Far.refl _ w) (.inl rfl) (i * 5) r
  obtain ⟨l0, l1, l2, l3⟩ := h.labs
  refine ⟨h.s0.far hf e1, h.s1.far hf e1, h.s2.far hf e1, h.caps, h.lows, h.labs, fun j hj => ?_, fun j hj => (h.th j hj).far hf (Ne.symm e4), fun j hj => (h.hh j hj).far hf (Ne.symm e5),
    fun j hj => ownsRow_same (h.tr j hj) (fun g hg hl => hf.block g hl ?_), fun j hj => ownsRow_same (h.hr j hj) (fun g hg hl => hf.block g hl ?_), h.tl, h.hl, fun k hk => ⟨Nat.lt_of_lt_of_le (h.gd k hk).1 hf.size, (h.gd k hk).2⟩⟩
  · show RtAt _ R (j * 5) (upd m.rs i r j)
    by_cases e : j = i
    · subst e; rw [upd_same]; exact (h.rt j hj).set r
    · rw [upd_far _ _ e]; exact (h.rt j hj).other r (by omega)
  · rintro rfl; have := h.tl j hj _ hg; omega
  · rintro rfl; have := h.hl j hj _ hg; omega

theorem relabel (lab : Nat → Nat) (v vo : Value) (x size : Nat) (ho : ∀ g, vo.ownBlock = some g → lab g = x) (hat : ∀ g, v.ownBlock = some g → vo.ownBlock = some g ∨ size ≤ g) :
    ∃ lab' : Nat → Nat, (∀ k, k < size → lab' k = lab k) ∧ ∀ g, v.ownBlock = some g → lab' g = x := by
  cases hv : v.ownBlock with
  | none => exact ⟨lab, fun _ _ => rfl, fun g hg => by cases hg⟩
  | some g =>
    rcases hat g hv with hat | hs
    · exact ⟨lab, fun _ _ => rfl, fun g' hg => by cases hg; exact ho g hat⟩
    · exact ⟨fun k => if k = g then x else lab k, fun k hk => if_neg (by omega), fun g' hg' => by
        cases hg'
        exact if_pos rfl⟩

theorem Mesh.lt (h : Mesh w B mb R T H cR cT cH n tv hv lab G m) (hn : 0 < n) : mb < w.heap.size ∧ R < w.heap.size ∧ T < w.heap.size ∧ H < w.heap.size :=
  ⟨h.s0.lt, (h.rt 0 hn).c0.lt, (h.th 0 hn).lt, (h.hh 0 hn).lt⟩

/-- What i has told is written: its row, then its slice. -/
theorem Mesh.toldv {wA : World} (h : Mesh w B mb R T H cR cT cH n tv hv lab G m) {i : Nat} (hi : i < n) (hf : Far (fun k => some k = (tv i).ownBlock) w wA) (l : List Dst) {v : Value}
    (ho : wA.ownsRow B 41 2 v l.length (dstCells l)) (hat : ∀ g, v.ownBlock = some g → (tv i).ownBlock = some g ∨ w.heap.size ≤ g) :
    MeshX (wA.setCell ⟨T, i, none⟩ v) B mb R T H cR cT cH n G { m with told := upd m.told i l } := by
  obtain ⟨e1, e2, e3, e4, e5, e6⟩ := h.ne
  obtain ⟨l0, l1, l2, l3⟩ := h.labs
  obtain ⟨q0, q1, q2, q3⟩ := h.lt (by omega)
  obtain ⟨lab', p1, p2⟩ := relabel lab v (tv i) (2 * i + 4) w.heap.size (h.tl i hi) hat
  have nt : ∀ k, lab k ≠ 2 * i + 4 → ¬ some k = (tv i).ownBlock := fun k hk e => hk (h.tl i hi k e.symm)
  have hvT : ∀ g, v.ownBlock = some g → T ≠ g := by
    rintro g hg rfl
    have := p2 _ hg
    rw [p1 _ q2] at this
    omega
  refine ⟨upd tv i v, hv, lab', (h.s0.far hf (nt _ (by omega))).off (.inl (Ne.symm e2)) _, (h.s1.far hf (nt _ (by omega))).off (.inl (Ne.symm e2)) _, (h.s2.far hf (nt _ (by omega))).off (.inl (Ne.symm e2)) _, h.caps, h.lows,
    ⟨(p1 _ q0).trans l0, (p1 _ q1).trans l1, (p1 _ q2).trans l2, (p1 _ q3).trans l3⟩, fun j hj => ?_, fun j hj => ?_, fun j hj => ?_, fun j hj => ?_, fun j hj => ?_, fun j hj g hg => ?_, fun j hj g hg => ?_, fun k hk => ⟨by have := (h.gd k hk).1; have := hf.size; simp [World.setCell]; omega, by rw [p1 k (h.gd k hk).1]; exact (h.gd k hk).2⟩⟩
  · have k := (h.rt j hj).far hf (nt _ (by omega))
    exact ⟨k.c0.off (.inl (Ne.symm e4)) _, k.c1.off (.inl (Ne.symm e4)) _, k.c2.off (.inl (Ne.symm e4)) _, k.c3.off (.inl (Ne.symm e4)) _, k.c4.off (.inl (Ne.symm e4)) _⟩
  · have k := (h.th j hj).far hf (nt _ (by omega))
    by_cases e : j = i
    · subst e; rw [upd_same]; exact k.set v
    · rw [upd_far _ _ e]; exact k.off (.inr (Ne.symm e)) _
  · exact ((h.hh j hj).far hf (nt _ (by omega))).off (.inl e6) _
  · show (wA.setCell _ v).ownsRow B 41 2 (upd tv i v j) (upd m.told i l j).length (dstCells (upd m.told i l j))
    by_cases e : j = i
    · subst e
      rw [upd_same, upd_same]
      exact ownsRow_same ho (fun g hg _ => Below.heap_setCell _ _ _ _ (Ne.symm (hvT g hg)))
    · rw [upd_far _ _ e, upd_far _ _ e]
      refine ownsRow_same (ownsRow_same (h.tr j hj) (fun g hg hl => hf.block g hl (nt _ (by have := h.tl j hj g hg; omega)))) (fun g hg _ => Below.heap_setCell _ _ _ _ ?_)
      rintro rfl
      have := h.tl j hj _ hg
      omega
  · show (wA.setCell _ v).ownsRow B 45 4 (hv j) (m.heard j).length (offCells (m.heard j))
    refine ownsRow_same (ownsRow_same (h.hr j hj) (fun g hg hl => hf.block g hl (nt _ (by have := h.hl j hj g hg; omega)))) (fun g hg _ => Below.heap_setCell _ _ _ _ ?_)
    rintro rfl
    have := h.hl j hj _ hg
    omega
  · by_cases e : j = i
    · subst e; rw [upd_same] at hg; exact p2 g hg
    · rw [upd_far _ _ e] at hg
      rw [p1 _ ((h.tr j hj).lt g hg).2]
      exact h.tl j hj g hg
  · rw [p1 _ ((h.hr j hj).lt g hg).2]
    exact h.hl j hj g hg

/-- What i has heard is written: its row, then its slice. -/
theorem Mesh.heardv {wA : World} (h : Mesh w B mb R T H cR cT cH n tv hv lab G m) {i : Nat} (hi : i < n) (hf : Far (fun k => some k = (hv i).ownBlock) w wA) (l : List Off) {v : Value}
    (ho : wA.ownsRow B 45 4 v l.length (offCells l)) (hat : ∀ g, v.ownBlock = some g → (hv i).ownBlock = some g ∨ w.heap.size ≤ g) :
    MeshX (wA.setCell ⟨H, i, none⟩ v) B mb R T H cR cT cH n G { m with heard := upd m.heard i l } := by
  obtain ⟨e1, e2, e3, e4, e5, e6⟩ := h.ne
  obtain ⟨l0, l1, l2, l3⟩ := h.labs
  obtain ⟨q0, q1, q2, q3⟩ := h.lt (by omega)
  obtain ⟨lab', p1, p2⟩ := relabel lab v (hv i) (2 * i + 5) w.heap.size (h.hl i hi) hat
  have nt : ∀ k, lab k ≠ 2 * i + 5 → ¬ some k = (hv i).ownBlock := fun k hk e => hk (h.hl i hi k e.symm)
  have hvT : ∀ g, v.ownBlock = some g → H ≠ g := by
    rintro g hg rfl
    have := p2 _ hg
    rw [p1 _ q3] at this
    omega
  refine ⟨tv, upd hv i v, lab', (h.s0.far hf (nt _ (by omega))).off (.inl (Ne.symm e3)) _, (h.s1.far hf (nt _ (by omega))).off (.inl (Ne.symm e3)) _, (h.s2.far hf (nt _ (by omega))).off (.inl (Ne.symm e3)) _, h.caps, h.lows,
    ⟨(p1 _ q0).trans l0, (p1 _ q1).trans l1, (p1 _ q2).trans l2, (p1 _ q3).trans l3⟩, fun j hj => ?_, fun j hj => ?_, fun j hj => ?_, fun j hj => ?_, fun j hj => ?_, fun j hj g hg => ?_, fun j hj g hg => ?_, fun k hk => ⟨by have := (h.gd k hk).1; have := hf.size; simp [World.setCell]; omega, by rw [p1 k (h.gd k hk).1]; exact (h.gd k hk).2⟩⟩
  · have k := (h.rt j hj).far hf (nt _ (by omega))
    exact ⟨k.c0.off (.inl (Ne.symm e5)) _, k.c1.off (.inl (Ne.symm e5)) _, k.c2.off (.inl (Ne.symm e5)) _, k.c3.off (.inl (Ne.symm e5)) _, k.c4.off (.inl (Ne.symm e5)) _⟩
  · exact ((h.th j hj).far hf (nt _ (by omega))).off (.inl (Ne.symm e6)) _
  · have k := (h.hh j hj).far hf (nt _ (by omega))
    by_cases e : j = i
    · subst e; rw [upd_same]; exact k.set v
    · rw [upd_far _ _ e]; exact k.off (.inr (Ne.symm e)) _
  · show (wA.setCell _ v).ownsRow B 41 2 (tv j) (m.told j).length (dstCells (m.told j))
    refine ownsRow_same (ownsRow_same (h.tr j hj) (fun g hg hl => hf.block g hl (nt _ (by have := h.tl j hj g hg; omega)))) (fun g hg _ => Below.heap_setCell _ _ _ _ ?_)
    rintro rfl
    have := h.tl j hj _ hg
    omega
  · show (wA.setCell _ v).ownsRow B 45 4 (upd hv i v j) (upd m.heard i l j).length (offCells (upd m.heard i l j))
    by_cases e : j = i
    · subst e
      rw [upd_same, upd_same]
      exact ownsRow_same ho (fun g hg _ => Below.heap_setCell _ _ _ _ (Ne.symm (hvT g hg)))
    · rw [upd_far _ _ e, upd_far _ _ e]
      refine ownsRow_same (ownsRow_same (h.hr j hj) (fun g hg hl => hf.block g hl (nt _ (by have := h.hl j hj g hg; omega)))) (fun g hg _ => Below.heap_setCell _ _ _ _ ?_)
      rintro rfl
      have := h.hl j hj _ hg
      omega
  · rw [p1 _ ((h.tr j hj).lt g hg).2]
    exact h.tl j hj g hg
  · by_cases e : j = i
    · subst e; rw [upd_same] at hg; exact p2 g hg
    · rw [upd_far _ _ e] at hg
      rw [p1 _ ((h.hr j hj).lt g hg).2]
      exact h.hl j hj g hg

/-- What i has heard is written in its row alone. -/
theorem Mesh.heardrow {wA : World} (h : Mesh w B mb R T H cR cT cH n tv hv lab G m) {i : Nat} (hi : i < n) (hf : Far (fun k => some k = (hv i).ownBlock) w wA) (l : List Off)
    (ho : wA.ownsRow B 45 4 (hv i) l.length (offCells l)) : Mesh wA B mb R T H cR cT cH n tv hv lab G { m with heard := upd m.heard i l } := by
  obtain ⟨l0, l1, l2, l3⟩ := h.labs
  have nt : ∀ k, lab k ≠ 2 * i + 5 → ¬ some k = (hv i).ownBlock := fun k hk e => hk (h.hl i hi k e.symm)
  refine ⟨h.s0.far hf (nt _ (by omega)), h.s1.far hf (nt _ (by omega)), h.s2.far hf (nt _ (by omega)), h.caps, h.lows, h.labs, fun j hj => (h.rt j hj).far hf (nt _ (by omega)), fun j hj => (h.th j hj).far hf (nt _ (by omega)),
    fun j hj => (h.hh j hj).far hf (nt _ (by omega)), fun j hj => ?_, fun j hj => ?_, h.tl, h.hl, fun k hk => ⟨Nat.lt_of_lt_of_le (h.gd k hk).1 hf.size, (h.gd k hk).2⟩⟩
  · exact ownsRow_same (h.tr j hj) (fun g hg hl => hf.block g hl (nt _ (by have := h.tl j hj g hg; omega)))
  · show wA.ownsRow B 45 4 (hv j) (upd m.heard i l j).length (offCells (upd m.heard i l j))
    by_cases e : j = i
    · subst e; rw [upd_same]; exact ho
    · rw [upd_far _ _ e]
      exact ownsRow_same (h.hr j hj) (fun g hg hl => hf.block g hl (nt _ (by have := h.hl j hj g hg; omega)))
/-- No block of the mesh is guarded. -/
theorem Mesh.free (h : Mesh w B mb R T H cR cT cH n tv hv lab G m) {k : Nat} (hk : lab k < 2 * n + 4) : ¬ G k := fun e => by have := (h.gd k e).2; omega
theorem Mesh.gR (h : Mesh w B mb R T H cR cT cH n tv hv lab G m) : ¬ G R := h.free (by obtain ⟨_, l1, _, _⟩ := h.labs; omega)
theorem Mesh.gT (h : Mesh w B mb R T H cR cT cH n tv hv lab G m) : ¬ G T := h.free (by obtain ⟨_, _, l2, _⟩ := h.labs; omega)
theorem Mesh.gH (h : Mesh w B mb R T H cR cT cH n tv hv lab G m) : ¬ G H := h.free (by obtain ⟨_, _, _, l3⟩ := h.labs; omega)

/-- A new block is guarded. -/
theorem MeshX.guard (h : MeshX w B mb R T H cR cT cH n G m) (hn : 0 < n) (o : Obj) : MeshX (w.alloc o) B mb R T H cR cT cH n (fun k => k = w.heap.size) m := by
  obtain ⟨tv, hv, lab, h⟩ := h
  obtain ⟨q0, q1, q2, q3⟩ := h.lt hn
  have k := h.keep ((Far.refl _ w).alloc o)
  obtain ⟨lab', hlab⟩ : ∃ l : Nat → Nat, l = fun k => if k = w.heap.size then 2 * n + 4 else lab k := ⟨_, rfl⟩
  have p1 : ∀ k, k < w.heap.size → lab' k = lab k := fun k hk => by rw [hlab]; exact if_neg (by omega)
  obtain ⟨l0, l1, l2, l3⟩ := h.labs
  refine ⟨tv, hv, lab', k.s0, k.s1, k.s2, k.caps, k.lows, ⟨(p1 _ q0).trans l0, (p1 _ q1).trans l1, (p1 _ q2).trans l2, (p1 _ q3).trans l3⟩, k.rt, k.th, k.hh, k.tr, k.hr, fun i hi g hg => ?_, fun i hi g hg => ?_, fun j hj => ?_⟩
  · rw [p1 _ ((h.tr i hi).lt g hg).2]; exact h.tl i hi g hg
  · rw [p1 _ ((h.hr i hi).lt g hg).2]; exact h.hl i hi g hg
  · subst hj
    refine ⟨by simp, ?_⟩
    rw [hlab]
    simp

/-- Below B, and in the guarded blocks, the world is as it was. -/
structure Keeps (B : Nat) (G : Nat → Prop) (w w' : World) : Prop where
  below : Below B w w'
  guard : ∀ k, G k → k < w.heap.size → w'.heap[k]? = w.heap[k]?
theorem Keeps.size (h : Keeps B G w w') : w.heap.size ≤ w'.heap.size := h.below.size
theorem Keeps.trans {x y z : World} (h : Keeps B G x y) (k : Keeps B G y z) : Keeps B G x z :=
  ⟨h.below.trans k.below, fun i hi hl => (k.guard i hi (Nat.lt_of_lt_of_le hl h.size)).trans (h.guard i hi hl)⟩
theorem Keeps.drew (h : Keeps B G w w') : Keeps B G w w'.drew := ⟨h.below.drew, h.guard⟩
theorem Keeps.setCell (h : Keeps B G w w') {p : Addr} (hp : B ≤ p.block ∧ ¬ G p.block) (u : Value) : Keeps B G w (w'.setCell p u) :=
  ⟨h.below.setCell hp.1 u, fun k hk hl => by rw [Below.heap_setCell _ _ _ _ (by rintro rfl; exact hp.2 hk)]; exact h.guard k hk hl⟩
theorem Far.to_keeps {C : Nat → Prop} (h : Far C w w') (hB : B ≤ w.heap.size) (hc : ∀ k, C k → B ≤ k ∧ ¬ G k) : Keeps B G w w' :=
  ⟨h.to_below hB (fun k e => (hc k e).1), fun k hk hl => h.block k hl (fun e => (hc k e).2 hk)⟩
theorem Keeps.refl (B : Nat) (G : Nat → Prop) (w : World) : Keeps B G w w := ⟨Below.refl _ _, fun _ _ _ => rfl⟩
end

end Go.Proofs.Ytefnjhdmpnfacaa
