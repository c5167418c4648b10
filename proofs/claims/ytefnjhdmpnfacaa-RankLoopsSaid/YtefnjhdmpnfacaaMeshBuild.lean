/- The mesh while it is built: a routes, b rows told, c nothings heard. -/
import Derived.Test.YtefnjhdmpnfacaaMeshRow
namespace Go.Proofs.Ytefnjhdmpnfacaa
open Go.RowKit
set_option linter.unusedVariables false

def rteRow (a : Nat) : List Value := (List.range a).flatMap (fun i => (startSt.rs i).cells.toList)
theorem rteRow_succ (a : Nat) : rteRow (a + 1) = rteRow a ++ (startSt.rs a).cells.toList := by simp [rteRow, List.range_succ]
theorem rteRow_len (a : Nat) : (rteRow a).length = a * 5 := by
  induction a with
  | zero => rfl
  | succ a ih => rw [rteRow_succ, List.length_append, ih]; simp [Rte.cells]; omega
theorem rteRow_at {a i j : Nat} (hi : i < a) (hj : j < 5) : (rteRow a)[i * 5 + j]? = (startSt.rs i).cells.toList[j]? := by
  induction a with
  | zero => omega
  | succ a ih =>
    rw [rteRow_succ]
    by_cases h : i < a
    · rw [List.getElem?_append_left (by rw [rteRow_len]; omega)]
      exact ih h
    · obtain rfl : i = a := by omega
      rw [List.getElem?_append_right (by rw [rteRow_len]; omega), rteRow_len]
      congr 1
      omega

structure Bld (w : World) (B mb a b c : Nat) (vR vT vH : Value) (tv : Nat → Value) (lab : Nat → Nat) : Prop where
  s0 : Slot w mb 0 vR
  s1 : Slot w mb 1 vT
  s2 : Slot w mb 2 vH
  rr : w.ownsRow B 43 5 vR a (rteRow a)
  tt : w.ownsRow B 65 1 vT b ((List.range b).map tv)
  hh : w.ownsRow B 37 1 vH c (List.replicate c (.slice none 0 0))
  tr : ∀ i, i < b → w.ownsRow B 41 2 (tv i) 1 (dstCells [(startSt.rs i).own])
  l0 : lab mb = 0
  lR : ∀ g, vR.ownBlock = some g → lab g = 1
  lT : ∀ g, vT.ownBlock = some g → lab g = 2
  lH : ∀ g, vH.ownBlock = some g → lab g = 3
  lt : ∀ i, i < b → ∀ g, (tv i).ownBlock = some g → lab g = 2 * i + 4
  lo : B ≤ mb

def BldX (w : World) (B mb a b c : Nat) : Prop := ∃ vR vT vH tv lab, Bld w B mb a b c vR vT vH tv lab

section
variable {w w' wA : World} {B mb a b c : Nat} {vR vT vH : Value} {tv : Nat → Value} {lab : Nat → Nat}

theorem Bld.keep (h : Bld w B mb a b c vR vT vH tv lab) (hf : Far (fun _ => False) w w') : Bld w' B mb a b c vR vT vH tv lab :=
  ⟨h.s0.far hf id, h.s1.far hf id, h.s2.far hf id, own_far h.rr hf, own_far h.tt hf, own_far h.hh hf, fun i hi => own_far (h.tr i hi) hf, h.l0, h.lR, h.lT, h.lH, h.lt, h.lo⟩
theorem BldX.keep (h : BldX w B mb a b c) (hf : Far (fun _ => False) w w') : BldX w' B mb a b c := by
  obtain ⟨vR, vT, vH, tv, lab, h⟩ := h
  exact ⟨vR, vT, vH, tv, lab, h.keep hf⟩

theorem own_set_far {e : TypeId} {sz n : Nat} {v : Value} {xs : List Value} (h : w.ownsRow B e sz v n xs) (hmb : v.ownBlock ≠ some mb) (j : Nat) (u : Value) : (w.setCell ⟨mb, j, none⟩ u).ownsRow B e sz v n xs :=
  ownsRow_same h (fun g hg _ => Below.heap_setCell _ _ _ _ (by rintro rfl; exact hmb hg))

/-- A route is appended. -/
theorem Bld.routes (h : Bld w B mb a b c vR vT vH tv lab) (hf : Far (fun k => some k = vR.ownBlock) w wA) {v : Value} (ho : wA.ownsRow B 43 5 v (a + 1) (rteRow (a + 1)))
    (hat : ∀ g, v.ownBlock = some g → vR.ownBlock = some g ∨ w.heap.size ≤ g) : BldX (wA.setCell ⟨mb, 0, none⟩ v) B mb (a + 1) b c := by
  obtain ⟨lab', p1, p2⟩ := relabel lab v vR 1 w.heap.size h.lR hat
  have hm := h.s0.lt
  have nt : ∀ k, lab k ≠ 1 → ¬ some k = vR.ownBlock := fun k hk e => hk (h.lR k e.symm)
  have n0 : ¬ some mb = vR.ownBlock := nt _ (by rw [h.l0]; omega)
  have kT : wA.ownsRow B 65 1 vT b ((List.range b).map tv) := ownsRow_same h.tt (fun g hg hl => hf.block g hl (nt _ (by rw [h.lT g hg]; omega)))
  have kH : wA.ownsRow B 37 1 vH c (List.replicate c (.slice none 0 0)) := ownsRow_same h.hh (fun g hg hl => hf.block g hl (nt _ (by rw [h.lH g hg]; omega)))
  have kt : ∀ i, i < b → wA.ownsRow B 41 2 (tv i) 1 (dstCells [(startSt.rs i).own]) := fun i hi => ownsRow_same (h.tr i hi) (fun g hg hl => hf.block g hl (nt _ (by rw [h.lt i hi g hg]; omega)))
  have l0' : lab' mb = 0 := (p1 _ hm).trans h.l0
  have lT' : ∀ g, vT.ownBlock = some g → lab' g = 2 := fun g hg => (p1 _ (h.tt.lt g hg).2).trans (h.lT g hg)
  have lH' : ∀ g, vH.ownBlock = some g → lab' g = 3 := fun g hg => (p1 _ (h.hh.lt g hg).2).trans (h.lH g hg)
  have lt' : ∀ i, i < b → ∀ g, (tv i).ownBlock = some g → lab' g = 2 * i + 4 := fun i hi g hg => (p1 _ ((h.tr i hi).lt g hg).2).trans (h.lt i hi g hg)
  exact ⟨v, vT, vH, tv, lab', (h.s0.far hf n0).set v, (h.s1.far hf n0).off (.inr (by omega)) _, (h.s2.far hf n0).off (.inr (by omega)) _,
    own_set_far ho (fun e => by have := p2 _ e; omega) _ _, own_set_far kT (fun e => by have := lT' _ e; omega) _ _, own_set_far kH (fun e => by have := lH' _ e; omega) _ _,
    fun i hi => own_set_far (kt i hi) (fun e => by have := lt' i hi _ e; omega) _ _, l0', p2, lT', lH', lt', h.lo⟩

/-- A nothing is appended to what is heard. -/
theorem Bld.heard (h : Bld w B mb a b c vR vT vH tv lab) (hf : Far (fun k => some k = vH.ownBlock) w wA) {v : Value} (ho : wA.ownsRow B 37 1 v (c + 1) (List.replicate (c + 1) (.slice none 0 0)))
    (hat : ∀ g, v.ownBlock = some g → vH.ownBlock = some g ∨ w.heap.size ≤ g) : BldX (wA.setCell ⟨mb, 2, none⟩ v) B mb a b (c + 1) := by
  obtain ⟨lab', p1, p2⟩ := relabel lab v vH 3 w.heap.size h.lH hat
  have hm := h.s0.lt
  have nt : ∀ k, lab k ≠ 3 → ¬ some k = vH.ownBlock := fun k hk e => hk (h.lH k e.symm)
  have n0 : ¬ some mb = vH.ownBlock := nt _ (by rw [h.l0]; omega)
  have kT : wA.ownsRow B 65 1 vT b ((List.range b).map tv) := ownsRow_same h.tt (fun g hg hl => hf.block g hl (nt _ (by rw [h.lT g hg]; omega)))
  have kR : wA.ownsRow B 43 5 vR a (rteRow a) := ownsRow_same h.rr (fun g hg hl => hf.block g hl (nt _ (by rw [h.lR g hg]; omega)))
  have kt : ∀ i, i < b → wA.ownsRow B 41 2 (tv i) 1 (dstCells [(startSt.rs i).own]) := fun i hi => ownsRow_same (h.tr i hi) (fun g hg hl => hf.block g hl (nt _ (by rw [h.lt i hi g hg]; omega)))
  have l0' : lab' mb = 0 := (p1 _ hm).trans h.l0
  have lT' : ∀ g, vT.ownBlock = some g → lab' g = 2 := fun g hg => (p1 _ (h.tt.lt g hg).2).trans (h.lT g hg)
  have lR' : ∀ g, vR.ownBlock = some g → lab' g = 1 := fun g hg => (p1 _ (h.rr.lt g hg).2).trans (h.lR g hg)
  have lt' : ∀ i, i < b → ∀ g, (tv i).ownBlock = some g → lab' g = 2 * i + 4 := fun i hi g hg => (p1 _ ((h.tr i hi).lt g hg).2).trans (h.lt i hi g hg)
  exact ⟨vR, vT, v, tv, lab', (h.s0.far hf n0).off (.inr (by omega)) _, (h.s1.far hf n0).off (.inr (by omega)) _, (h.s2.far hf n0).set v,
    own_set_far kR (fun e => by have := lR' _ e; omega) _ _, own_set_far kT (fun e => by have := lT' _ e; omega) _ _, own_set_far ho (fun e => by have := p2 _ e; omega) _ _,
    fun i hi => own_set_far (kt i hi) (fun e => by have := lt' i hi _ e; omega) _ _, l0', lR', lT', p2, lt', h.lo⟩

/-- A row told is appended: u, in block x. -/
theorem Bld.told (h : Bld w B mb a b c vR vT vH tv lab) (hf : Far (fun k => some k = vT.ownBlock) w wA) {v : Value} {x cx : Nat} (hx : w.heap.size ≤ x) (hu : wA.ownsRow B 41 2 (.slice (some ⟨x, 0, none⟩) 1 cx) 1 (dstCells [(startSt.rs b).own]))
    (ho : wA.ownsRow B 65 1 v (b + 1) ((List.range b).map tv ++ [.slice (some ⟨x, 0, none⟩) 1 cx]))
    (hat : ∀ g, v.ownBlock = some g → vT.ownBlock = some g ∨ (w.heap.size ≤ g ∧ g ≠ x)) : BldX (wA.setCell ⟨mb, 1, none⟩ v) B mb a (b + 1) c := by
  obtain ⟨lab1, p1, p2⟩ := relabel lab v vT 2 w.heap.size h.lT (fun g hg => (hat g hg).imp id (·.1))
  obtain ⟨lab', hlab⟩ : ∃ l : Nat → Nat, l = fun k => if k = x then 2 * b + 4 else lab1 k := ⟨_, rfl⟩
  have q1 : ∀ k, k < w.heap.size → lab' k = lab k := fun k hk => by rw [hlab]; simp only; rw [if_neg (by omega)]; exact p1 k hk
  have qx : lab' x = 2 * b + 4 := by rw [hlab]; simp
  have q2 : ∀ g, v.ownBlock = some g → lab' g = 2 := fun g hg => by
    have hgx : g ≠ x := by
      rcases hat g hg with e | e
      · have := (h.tt.lt g e).2; omega
      · exact e.2
    rw [hlab]
    simp only
    rw [if_neg hgx]
    exact p2 g hg
  have hm := h.s0.lt
  have nt : ∀ k, lab k ≠ 2 → ¬ some k = vT.ownBlock := fun k hk e => hk (h.lT k e.symm)
  have n0 : ¬ some mb = vT.ownBlock := nt _ (by rw [h.l0]; omega)
  have kR : wA.ownsRow B 43 5 vR a (rteRow a) := ownsRow_same h.rr (fun g hg hl => hf.block g hl (nt _ (by rw [h.lR g hg]; omega)))
  have kH : wA.ownsRow B 37 1 vH c (List.replicate c (.slice none 0 0)) := ownsRow_same h.hh (fun g hg hl => hf.block g hl (nt _ (by rw [h.lH g hg]; omega)))
  have kt : ∀ i, i < b → wA.ownsRow B 41 2 (tv i) 1 (dstCells [(startSt.rs i).own]) := fun i hi => ownsRow_same (h.tr i hi) (fun g hg hl => hf.block g hl (nt _ (by rw [h.lt i hi g hg]; omega)))
  have l0' : lab' mb = 0 := (q1 _ hm).trans h.l0
  have lR' : ∀ g, vR.ownBlock = some g → lab' g = 1 := fun g hg => (q1 _ (h.rr.lt g hg).2).trans (h.lR g hg)
  have lH' : ∀ g, vH.ownBlock = some g → lab' g = 3 := fun g hg => (q1 _ (h.hh.lt g hg).2).trans (h.lH g hg)
  have lt0 : ∀ i, i < b → ∀ g, (tv i).ownBlock = some g → lab' g = 2 * i + 4 := fun i hi g hg => (q1 _ ((h.tr i hi).lt g hg).2).trans (h.lt i hi g hg)
  obtain ⟨u, hue⟩ : ∃ u : Value, u = .slice (some ⟨x, 0, none⟩) 1 cx := ⟨_, rfl⟩
  rw [← hue] at hu ho
  have hub : ∀ g, u.ownBlock = some g → lab' g = 2 * b + 4 := fun g hg => by
    rw [hue] at hg
    simp [Value.ownBlock] at hg
    rw [← hg]
    exact qx
  have lt' : ∀ i, i < b + 1 → ∀ g, (upd tv b u i).ownBlock = some g → lab' g = 2 * i + 4 := fun i hi g hg => by
    by_cases e : i = b
    · subst e; rw [upd_same] at hg; exact hub g hg
    · rw [upd_far _ _ e] at hg; exact lt0 i (by omega) g hg
  have kt' : ∀ i, i < b + 1 → wA.ownsRow B 41 2 (upd tv b u i) 1 (dstCells [(startSt.rs i).own]) := fun i hi => by
    by_cases e : i = b
    · subst e; rw [upd_same]; exact hu
    · rw [upd_far _ _ e]; exact kt i (by omega)
  have hmap : (List.range (b + 1)).map (upd tv b u) = (List.range b).map tv ++ [u] := by
    rw [List.range_succ, List.map_append, List.map_singleton, upd_same]
    congr 1
    refine List.map_congr_left (fun i hi => upd_far _ _ ?_)
    have := List.mem_range.1 hi
    omega
  refine ⟨vR, v, vH, upd tv b u, lab', (h.s0.far hf n0).off (.inr (by omega)) _, (h.s1.far hf n0).set v, (h.s2.far hf n0).off (.inr (by omega)) _,
    own_set_far kR (fun e => by have := lR' _ e; omega) _ _, ?_, own_set_far kH (fun e => by have := lH' _ e; omega) _ _,
    fun i hi => own_set_far (kt' i hi) (fun e => by have := lt' i hi _ e; omega) _ _, l0', lR', q2, lH', lt', h.lo⟩
  rw [hmap]
  exact own_set_far ho (fun e => by have := q2 _ e; omega) _ _

/-- The mesh, built. -/
theorem Bld.done {n : Nat} (h : Bld w B mb n n n vR vT vH tv lab) (hn : 0 < n) : ∃ R T H cR cT cH, MeshX w B mb R T H cR cT cH n (fun _ => False) startSt := by
  obtain ⟨R, cR, hR, bR, _⟩ := h.rr.form hn
  obtain ⟨T, cT, hT, bT, _⟩ := h.tt.form hn
  obtain ⟨H, cH, hH, bH, _⟩ := h.hh.form hn
  have hr := h.rr
  have ht := h.tt
  have hh := h.hh
  have s0 := h.s0
  have s1 := h.s1
  have s2 := h.s2
  have lR := h.lR
  have lT := h.lT
  have lH := h.lH
  rw [hR] at hr s0 lR
  rw [hT] at ht s1 lT
  rw [hH] at hh s2 lH
  have cap : ∀ {e : TypeId} {sz g cp : Nat} {xs : List Value}, w.ownsRow B e sz (.slice (some ⟨g, 0, none⟩) n cp) n xs → n ≤ cp := by
    intro e sz g cp xs ho
    rcases ho.2 with ⟨h1, _⟩ | ⟨g', cap', cur, hv, _, _, hc, _⟩
    · cases h1
    · cases hv; exact hc
  refine ⟨R, T, H, cR, cT, cH, tv, fun _ => .slice none 0 0, lab, s0, s1, s2, ⟨cap hr, cap ht, cap hh⟩, ⟨h.lo, bR, bT, bH⟩, ⟨h.l0, lR R rfl, lT T rfl, lH H rfl⟩, fun i hi => ?_, fun i hi => ?_, fun i hi => ?_, fun i hi => ?_, fun i hi => ?_, fun i hi g hg => h.lt i hi g hg, (fun i hi g hg => by cases hg), fun k e => e.elim⟩
  · have e := fun j (hj : j < 5) => rteRow_at (j := j) hi hj
    exact ⟨own_slot hr _ _ (e 0 (by omega)), own_slot hr _ _ (e 1 (by omega)), own_slot hr _ _ (e 2 (by omega)), own_slot hr _ _ (e 3 (by omega)), own_slot hr _ _ (e 4 (by omega))⟩
  · exact own_slot ht _ _ (by rw [List.getElem?_map, List.getElem?_range hi]; rfl)
  · exact own_slot hh _ _ (by rw [List.getElem?_replicate, if_pos hi])
  · exact h.tr i hi
  · exact World.ownsRow_nil _ _ _ _
end

end Go.Proofs.Ytefnjhdmpnfacaa
