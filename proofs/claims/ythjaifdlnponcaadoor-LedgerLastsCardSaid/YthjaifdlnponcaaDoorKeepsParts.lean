/- A ledger that a loop keeps in a block of the call's own. -/
import Derived.Test.YthjaifdlnponcaaDoorFrame
namespace Go.Proofs.YthjaifdlnponcaaDoor
open Go.RowKit

/-- Beside a ledger (l, s) in block b: another one, (ln, sn), in block bn, that may be written. -/
structure Run (b bn : Nat) (l s ln sn : Int) (w0 wr : World) : Prop where
  kept : Kept b l s w0 wr
  n0 : wr.cell? ⟨bn, 0, none⟩ = some (.int .i64 ln)
  n1 : wr.cell? ⟨bn, 1, none⟩ = some (.int .i64 sn)
  f0 : wr.frozen? ⟨bn, 0, none⟩ = false
  f1 : wr.frozen? ⟨bn, 1, none⟩ = false
  ltn : bn < wr.heap.size
  old : w0.heap.size ≤ bn
  ne : b ≠ bn

theorem Run.below {b bn : Nat} {l s ln sn : Int} {w0 wr w' : World} (h : Run b bn l s ln sn w0 wr) (hb : Below wr.heap.size wr w') : Run b bn l s ln sn w0 w' :=
  ⟨h.kept.below hb, (hb.cell h.ltn).trans h.n0, (hb.cell h.ltn).trans h.n1, (hb.frozen h.ltn).trans h.f0, (hb.frozen h.ltn).trans h.f1, Nat.lt_of_lt_of_le h.ltn hb.size, h.old, h.ne⟩

theorem Run.alloc {b bn : Nat} {l s ln sn : Int} {w0 wr : World} (h : Run b bn l s ln sn w0 wr) (o : Obj) : Run b bn l s ln sn w0 (wr.alloc o) :=
  h.below ((Below.refl _ _).alloc (Nat.le_refl _) _)

theorem laid_setCell {w : World} (h : Laid w) {bn j : Nat} (hn : 0 < bn) (u : Value) : Laid (w.setCell ⟨bn, j, none⟩ u) := by
  have far : ∀ i, (w.setCell ⟨bn, j, none⟩ u).cell? ⟨0, i, none⟩ = w.cell? ⟨0, i, none⟩ := fun i =>
    World.cell?_setCell_other w _ _ u (fun e => by injection e; omega)
  exact ⟨by simpa [World.setCell] using h.1, (far 0).trans h.2.1, (far 1).trans h.2.2.1, (far 2).trans h.2.2.2⟩

theorem Run.set0 {b bn : Nat} {l s ln sn : Int} {w0 wr : World} (h : Run b bn l s ln sn w0 wr) (hp : 0 < w0.heap.size) (x : Int) : Run b bn l s x sn w0 (wr.setCell ⟨bn, 0, none⟩ (.int .i64 x)) := by
  have hne := h.ne
  have hold := h.old
  have far : ∀ (c i : Nat), (c, i) ≠ (bn, 0) → (wr.setCell ⟨bn, 0, none⟩ (.int .i64 x)).cell? ⟨c, i, none⟩ = wr.cell? ⟨c, i, none⟩ := fun c i hci =>
    World.cell?_setCell_other wr _ _ _ (fun e => hci (by injection e with e1 e2; simp [e1, e2]))
  refine ⟨⟨(far _ _ (by simp [hne])).trans h.kept.c0, (far _ _ (by simp [hne])).trans h.kept.c1, by simpa [World.setCell] using h.kept.lt, laid_setCell h.kept.laid (by omega) _, h.kept.acc.setCell hold _⟩,
    ?_, (far _ _ (by simp)).trans h.n1, (World.frozen?_setCell _ _ _ _).trans h.f0, (World.frozen?_setCell _ _ _ _).trans h.f1, by simpa [World.setCell] using h.ltn, hold, hne⟩
  exact World.cell?_setCell_same _ _ _ h.n0

theorem Run.set1 {b bn : Nat} {l s ln sn : Int} {w0 wr : World} (h : Run b bn l s ln sn w0 wr) (hp : 0 < w0.heap.size) (x : Int) : Run b bn l s ln x w0 (wr.setCell ⟨bn, 1, none⟩ (.int .i64 x)) := by
  have hne := h.ne
  have hold := h.old
  have far : ∀ (c i : Nat), (c, i) ≠ (bn, 1) → (wr.setCell ⟨bn, 1, none⟩ (.int .i64 x)).cell? ⟨c, i, none⟩ = wr.cell? ⟨c, i, none⟩ := fun c i hci =>
    World.cell?_setCell_other wr _ _ _ (fun e => hci (by injection e with e1 e2; simp [e1, e2]))
  refine ⟨⟨(far _ _ (by simp [hne])).trans h.kept.c0, (far _ _ (by simp [hne])).trans h.kept.c1, by simpa [World.setCell] using h.kept.lt, laid_setCell h.kept.laid (by omega) _, h.kept.acc.setCell hold _⟩,
    (far _ _ (by simp)).trans h.n0, ?_, (World.frozen?_setCell _ _ _ _).trans h.f0, (World.frozen?_setCell _ _ _ _).trans h.f1, by simpa [World.setCell] using h.ltn, hold, hne⟩
  exact World.cell?_setCell_same _ _ _ h.n1

end Go.Proofs.YthjaifdlnponcaaDoor
