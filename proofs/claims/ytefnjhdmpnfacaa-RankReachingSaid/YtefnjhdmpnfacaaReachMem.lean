/- What the walk of RankReaching carries: the mesh, and who is joined beside it. -/
import Derived.Test.YtefnjhdmpnfacaaReachEnd
import Derived.Test.YtefnjhdmpnfacaaMeshApply
namespace Go.Proofs.Ytefnjhdmpnfacaa.rankReaching
open Go.RowKit
set_option linter.unusedVariables false

/-- Who is joined. -/
def JAt (w : World) (J n : Nat) (jn : Nat → Bool) : Prop := ∀ i, i < n → Slot w J i (.bool (jn i))

theorem slot_same {w w' : World} {b o : Nat} {v : Value} (h : Slot w b o v) (hs : w'.heap[b]? = w.heap[b]?) : Slot w' b o v :=
  ⟨(World.cell?_of_block (w := w) (a := ⟨b, o, none⟩) hs).trans h.cell, (World.frozen?_of_block (w := w) (a := ⟨b, o, none⟩) hs).trans h.free⟩

theorem mesh_over {w w' : World} {B mb R T H cR cT cH n : Nat} {G : Nat → Prop} {m : St} (h : MeshX w B mb R T H cR cT cH n G m) (hf : Far G w w') : MeshX w' B mb R T H cR cT cH n G m := by
  obtain ⟨tv, hv, lab, h⟩ := h
  exact ⟨tv, hv, lab, h.far hf (fun k hk => (h.gd k hk).2)⟩

theorem forgot {w : World} {B mb R T H cR cT cH n : Nat} {G : Nat → Prop} {m : St} (h : MeshX w B mb R T H cR cT cH n G m) {i : Nat} (hi : i < n) : MeshX (w.setCell ⟨H, i, none⟩ (.slice none 0 0)) B mb R T H cR cT cH n G (m.forget i) ∧ (B ≤ w.heap.size → Keeps B G w (w.setCell ⟨H, i, none⟩ (.slice none 0 0))) := by
  obtain ⟨tv, hv, lab, h⟩ := h
  exact ⟨h.heardv hi (Far.refl _ _) [] (v := .slice none 0 0) (World.ownsRow_nil _ _ _ _) (fun g hg => by cases hg), fun _ => (Keeps.refl _ _ _).setCell (p := ⟨H, i, none⟩) ⟨h.lows.2.2.2, h.gH⟩ _⟩

theorem guarded {w w' : World} {B mb R T H cR cT cH n : Nat} {G : Nat → Prop} {m : St} (h : MeshX w B mb R T H cR cT cH n G m) (hn : 0 < n) (hf : Far (fun _ => False) w w') {J : Nat} (h1 : w.heap.size ≤ J) (h2 : J < w'.heap.size) : MeshX w' B mb R T H cR cT cH n (fun k => k = J) m := by
  obtain ⟨tv, hv, lab, h⟩ := h
  obtain ⟨q0, q1, q2, q3⟩ := h.lt hn
  have k := h.keep hf
  obtain ⟨lab', hlab⟩ : ∃ l : Nat → Nat, l = fun k => if k = J then 2 * n + 4 else lab k := ⟨_, rfl⟩
  have p1 : ∀ k, k < w.heap.size → lab' k = lab k := fun k hk => by rw [hlab]; exact if_neg (by omega)
  obtain ⟨l0, l1, l2, l3⟩ := h.labs
  refine ⟨tv, hv, lab', k.s0, k.s1, k.s2, k.caps, k.lows, ⟨(p1 _ q0).trans l0, (p1 _ q1).trans l1, (p1 _ q2).trans l2, (p1 _ q3).trans l3⟩, k.rt, k.th, k.hh, k.tr, k.hr, fun i hi g hg => ?_, fun i hi g hg => ?_, fun j hj => ?_⟩
  · rw [p1 _ ((h.tr i hi).lt g hg).2]; exact h.tl i hi g hg
  · rw [p1 _ ((h.hr i hi).lt g hg).2]; exact h.hl i hi g hg
  · subst hj
    refine ⟨h2, ?_⟩
    rw [hlab]
    simp

structure RX (w wr : World) (B mb R T H cR cT cH n J : Nat) (m : St) (jn : Nat → Bool) : Prop where
  acc : Below w.heap.size w wr
  hB : w.heap.size ≤ B ∧ B ≤ wr.heap.size
  hJ : w.heap.size ≤ J ∧ J < wr.heap.size
  mx : MeshX wr B mb R T H cR cT cH n (fun k => k = J) m
  ja : JAt wr J n jn

section
variable {w wr wx : World} {B mb R T H cR cT cH n J : Nat} {m q : St} {jn : Nat → Bool}

theorem RX.keep (h : RX w wr B mb R T H cR cT cH n J m jn) (hf : Far (fun _ => False) wr wx) : RX w wx B mb R T H cR cT cH n J m jn :=
  ⟨h.acc.trans (hf.to_below h.acc.size (fun _ e => e.elim)), ⟨h.hB.1, Nat.le_trans h.hB.2 hf.size⟩, ⟨h.hJ.1, Nat.lt_of_lt_of_le h.hJ.2 hf.size⟩, h.mx.keep hf, fun i hi => (h.ja i hi).far hf id⟩
/-- Behind a call of the mesh's. -/
theorem RX.call (h : RX w wr B mb R T H cR cT cH n J m jn) (hk : Keeps B (fun k => k = J) wr wx) (hx : MeshX wx B mb R T H cR cT cH n (fun k => k = J) q) : RX w wx B mb R T H cR cT cH n J q jn :=
  ⟨h.acc.trans (hk.below.mono h.hB.1), ⟨h.hB.1, Nat.le_trans h.hB.2 hk.size⟩, ⟨h.hJ.1, Nat.lt_of_lt_of_le h.hJ.2 hk.size⟩, hx, fun i hi => slot_same (h.ja i hi) (hk.guard J rfl h.hJ.2)⟩
/-- Behind a store into joined. -/
theorem RX.join (h : RX w wr B mb R T H cR cT cH n J m jn) (j : Nat) (b : Bool) (hj : j < n) : RX w (wr.setCell ⟨J, j, none⟩ (.bool b)) B mb R T H cR cT cH n J m (upd jn j b) :=
  ⟨h.acc.setCell (p := ⟨J, j, none⟩) h.hJ.1 _, ⟨h.hB.1, by simp [World.setCell]; exact h.hB.2⟩, ⟨h.hJ.1, by simp [World.setCell]; exact h.hJ.2⟩, mesh_over h.mx (Far.setCell (C := fun k => k = J) (Far.refl _ _) (p := ⟨J, j, none⟩) (.inl rfl) _), fun i hi => by
    by_cases e : i = j
    · subst e; rw [upd_same]; exact (h.ja i hi).set _
    · rw [upd_far _ _ e]; exact (h.ja i hi).off (.inr (Ne.symm e)) _⟩
end

/-! facts on the states that are met -/
section
variable {n : Nat} {ls : List (Int × Int)} {ms : List Mv}

theorem mul_bd {t : Nat} (hn : n ≤ 8) (hl : ls.length ≤ 30) (ht : t ≤ 8) : t * (2 * ls.length + (n - 1)) ≤ 8 * 67 := Nat.mul_le_mul ht (by omega)

theorem inv_T (hn : 2 ≤ n) (hn8 : n ≤ 8) (hm : ms.length ≤ 100) (hl : ls.length ≤ 30) {t : Nat} (ht : t ≤ 8) : Inv n 637 (mT n ls ms t) :=
  (ri_all (by omega) (by omega) ls ms (by omega) t (by omega)).inv.more (by have := mul_bd (ls := ls) hn8 hl ht; omega)
theorem inv_pass (hn : 2 ≤ n) (hn8 : n ≤ 8) (hm : ms.length ≤ 100) (hl : ls.length ≤ 30) {t : Nat} (ht : t ≤ 8) (k : Nat) : Inv n 697 ((ls.take k).foldl (mlink n) (mT n ls ms t)) :=
  (pass_all (inv_T hn hn8 hm hl ht) (by omega) (by omega) (ls.take k)).inv.more (by rw [List.length_take]; omega)
theorem inv_ch (hn : 2 ≤ n) (hn8 : n ≤ 8) (hm : ms.length ≤ 100) (hl : ls.length ≤ 30) {t : Nat} (ht : t ≤ 8) {k : Nat} (hk : k < n) : Inv n 705 (chTo (ls.foldl (mlink n) (mT n ls ms t)) k) := by
  have h := inv_pass (t := t) hn hn8 hm hl ht ls.length
  rw [List.take_length] at h
  exact (chose h k hk).inv.more (by omega)
theorem small_forget (hn : 2 ≤ n) (hn8 : n ≤ 8) (hm : ms.length ≤ 100) : Small n (forgetTo (after n ms) n) :=
  (forget_all (after_inv n (by omega) (by omega) ms (by omega)).1 n).1.small (by omega) (by omega)

theorem step_three (n : Nat) (m : St) : stepF n m ⟨3, 0, 0, 0, 0⟩ = m.tell 0 (renewF (m.rs 0) ((m.rs 0).os + 1)) := by
  unfold stepF
  simp
theorem mv_three : MvOk ⟨3, 0, 0, 0, 0⟩ := by unfold MvOk; simp
theorem mv_zero {k : Nat} (hn8 : n ≤ 8) (hk : k < n) : MvOk ⟨0, (k : Nat), 0, 0, 0⟩ := by unfold MvOk; simp only; omega
theorem idx_self {k : Nat} (hk : k < n) : idx n (k : Nat) = k := by
  unfold idx
  rw [Int.emod_eq_of_lt (by omega) (by omega)]
  simp
theorem step_zero (m : St) {k : Nat} (h0 : 0 < k) (hk : k < n) : stepF n m ⟨0, (k : Nat), 0, 0, 0⟩ = chF m k := by
  unfold stepF chF
  simp only
  rw [if_pos (by decide), idx_self hk, if_pos h0]
theorem link_snoc {k : Nat} {l : Int × Int} (h : ls[k]? = some l) (f : St → Int × Int → St) (m : St) : (ls.take (k + 1)).foldl f m = f ((ls.take k).foldl f m) l := by
  rw [List.take_add_one, h, List.foldl_append]
  rfl
theorem link_snocj {k : Nat} {l : Int × Int} (h : ls[k]? = some l) (f : (Nat → Bool) → Int × Int → Nat → Bool) (m : Nat → Bool) : (ls.take (k + 1)).foldl f m = f ((ls.take k).foldl f m) l := by
  rw [List.take_add_one, h, List.foldl_append]
  rfl
theorem up_bd {t i : Nat} (hn : 2 ≤ n) (hn8 : n ≤ 8) (hm : ms.length ≤ 100) (hl : ls.length ≤ 30) (ht : t ≤ 8) (hi : i < n) (j : Nat) : goUp (mT n ls ms t) (i : Nat) j = -1 ∨ ∃ a : Nat, a < n ∧ goUp (mT n ls ms t) (i : Nat) j = (a : Nat) :=
  goUp_range (inv_T hn hn8 hm hl ht) hi j
end

theorem made_at {n i : Nat} (hi : i < n) : (madeCells (Value.cells (.bool false)) (n * 1)).toList[i]? = some (.bool false) := by
  rw [Nat.mul_one]
  simp [madeCells, Value.cells, hi, Nat.mod_one]

/-- joined is made. -/
theorem rx_made {w wr wx : World} {B mb R T H cR cT cH n : Nat} {m : St} (hn : 0 < n) (h : MeshX wr B mb R T H cR cT cH n (fun _ => False) m) (hb : Below w.heap.size w wr) (hB : w.heap.size ≤ B ∧ B ≤ wr.heap.size)
    (ho : wx.ownsRow wr.heap.size 4 1 (.slice (some ⟨wr.heap.size, 0, none⟩) n n) n (madeCells (Value.cells (.bool false)) (n * 1)).toList) (hg : wr.grownBy wx none) :
    RX w wx B mb R T H cR cT cH n wr.heap.size m (fun _ => false) := by
  have hf : Far (fun _ => False) wr wx := (Far.refl _ _).grown hg (fun k e => by cases e)
  have hj : JAt wx wr.heap.size n (fun _ => false) := fun i hi => own_slot ho _ _ (made_at hi)
  have hl := (hj 0 hn).lt
  exact ⟨hb.trans (hf.to_below hb.size (fun _ e => e.elim)), ⟨hB.1, Nat.le_trans hB.2 hf.size⟩, ⟨hb.size, hl⟩, guarded h hn hf (Nat.le_refl _) hl, hj⟩

theorem info4 : (Try.prog.info? 4).map (fun i => (i.zero, i.size, i.bytes)) = some (some (.bool false), 1, 1) := by kernel_rfl

end Go.Proofs.Ytefnjhdmpnfacaa.rankReaching
