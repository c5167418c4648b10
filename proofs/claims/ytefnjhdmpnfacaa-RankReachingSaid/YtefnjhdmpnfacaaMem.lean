/- Words for memory: a block that is known whole; a slice of offers. -/
import Derived.Test.YtefnjhdmpnfacaaClos
namespace Go.Proofs.Ytefnjhdmpnfacaa
open Go.RowKit

/-- Block g holds just these cells, none frozen. -/
def Whole (w : World) (g : Nat) (t : TypeId) (cs : Array Value) : Prop := w.heap[g]? = some (.cells cs t (0, 0))

section
variable {w w' : World} {g : Nat} {t : TypeId} {cs : Array Value}
theorem Whole.lt (h : Whole w g t cs) : g < w.heap.size := by
  rcases Nat.lt_or_ge g w.heap.size with hlt | hge
  · exact hlt
  · unfold Whole at h
    rw [Array.getElem?_eq_none hge] at h
    cases h
theorem Whole.cell (h : Whole w g t cs) (i : Nat) : w.cell? ⟨g, i, none⟩ = cs[i]? := by
  unfold Whole at h
  simp [World.cell?, h]
theorem Whole.frozen (h : Whole w g t cs) (i : Nat) : w.frozen? ⟨g, i, none⟩ = false := by
  unfold Whole at h
  simp [World.frozen?, h]
theorem Whole.new (w : World) (t : TypeId) (cs : Array Value) : Whole (w.alloc (.cells cs t)) w.heap.size t cs := by
  unfold Whole
  show (w.heap.push _)[w.heap.size]? = _
  simp
theorem Whole.new_at {n : Nat} (hn : n = w.heap.size) : Whole (w.alloc (.cells cs t)) n t cs := hn ▸ Whole.new w t cs
theorem Whole.below {B : Nat} (h : Whole w g t cs) (hb : Below B w w') (hg : g < B) : Whole w' g t cs := (hb.block g hg).trans h
theorem Whole.alloc (h : Whole w g t cs) (o : Obj) : Whole (w.alloc o) g t cs := (Below.heap_alloc w o g h.lt).trans h
theorem Whole.drew (h : Whole w g t cs) : Whole w.drew g t cs := h
theorem Whole.set (h : Whole w g t cs) (i : Nat) (u : Value) : Whole (w.setCell ⟨g, i, none⟩ u) g t (cs.setIfInBounds i u) := by
  unfold Whole at h ⊢
  simp [World.setCell, Array.getElem?_modify, h]
theorem Whole.far (h : Whole w g t cs) {p : Addr} (hp : g ≠ p.block) (u : Value) : Whole (w.setCell p u) g t cs := (Below.heap_setCell w p u g hp).trans h
end

/-- An offer as cells. -/
def Off.cells (o : Off) : Array Value := #[.int .i64 o.peer, .int .i64 o.seq, .int .i64 o.rank, .int .i64 o.cost]
def Rte.cells (r : Rte) : Array Value := #[.int .i64 r.os, .int .i64 r.orr, .int .i64 r.ls, .int .i64 r.lr, .int .i64 r.par]

theorem Whole.offer {w : World} {g : Nat} {t : TypeId} {o : Off} (h : Whole w g t o.cells) :
    w.cell? ⟨g, 0, none⟩ = some (.int .i64 o.peer) ∧ w.cell? ⟨g, 1, none⟩ = some (.int .i64 o.seq) ∧ w.cell? ⟨g, 2, none⟩ = some (.int .i64 o.rank) ∧ w.cell? ⟨g, 3, none⟩ = some (.int .i64 o.cost) ∧
      w.frozen? ⟨g, 0, none⟩ = false ∧ w.frozen? ⟨g, 1, none⟩ = false ∧ w.frozen? ⟨g, 2, none⟩ = false ∧ w.frozen? ⟨g, 3, none⟩ = false :=
  ⟨h.cell 0, h.cell 1, h.cell 2, h.cell 3, h.frozen 0, h.frozen 1, h.frozen 2, h.frozen 3⟩

theorem Whole.route {w : World} {g : Nat} {t : TypeId} {r : Rte} (h : Whole w g t r.cells) :
    w.cell? ⟨g, 0, none⟩ = some (.int .i64 r.os) ∧ w.cell? ⟨g, 1, none⟩ = some (.int .i64 r.orr) ∧ w.cell? ⟨g, 2, none⟩ = some (.int .i64 r.ls) ∧ w.cell? ⟨g, 3, none⟩ = some (.int .i64 r.lr) ∧ w.cell? ⟨g, 4, none⟩ = some (.int .i64 r.par) ∧
      w.frozen? ⟨g, 0, none⟩ = false ∧ w.frozen? ⟨g, 1, none⟩ = false ∧ w.frozen? ⟨g, 2, none⟩ = false ∧ w.frozen? ⟨g, 3, none⟩ = false ∧ w.frozen? ⟨g, 4, none⟩ = false :=
  ⟨h.cell 0, h.cell 1, h.cell 2, h.cell 3, h.cell 4, h.frozen 0, h.frozen 1, h.frozen 2, h.frozen 3, h.frozen 4⟩

theorem Whole.rat {w : World} {g : Nat} {t : TypeId} {r : Rte} (h : Whole w g t r.cells) : RAt w g r :=
  ⟨h.lt, h.cell 0, h.cell 1, h.cell 2, h.cell 3, h.cell 4⟩

/-- A row of offers. -/
def OffsAt (w : World) (b off : Nat) (xs : List Off) : Prop := ∀ (k : Nat) (o : Off), xs[k]? = some o →
  w.cell? ⟨b, off + k * 4, none⟩ = some (.int .i64 o.peer) ∧ w.cell? ⟨b, off + k * 4 + 1, none⟩ = some (.int .i64 o.seq) ∧ w.cell? ⟨b, off + k * 4 + 2, none⟩ = some (.int .i64 o.rank) ∧ w.cell? ⟨b, off + k * 4 + 3, none⟩ = some (.int .i64 o.cost)

/-- A slice of offers that reads as xs: nil, empty or not. -/
def Offs (w : World) (A : Option Addr) (len : Nat) (xs : List Off) : Prop :=
  xs.length = len ∧ (0 < len → ∃ b off, A = some ⟨b, off, none⟩ ∧ b < w.heap.size ∧ OffsAt w b off xs)

theorem Offs.below {w w' : World} {A : Option Addr} {len : Nat} {xs : List Off} (h : Offs w A len xs) (hb : Below w.heap.size w w') : Offs w' A len xs :=
  ⟨h.1, fun hp => by
    obtain ⟨b, off, e, hlt, hc⟩ := h.2 hp
    refine ⟨b, off, e, Nat.lt_of_lt_of_le hlt hb.size, fun k o ho => ?_⟩
    obtain ⟨c0, c1, c2, c3⟩ := hc k o ho
    exact ⟨(hb.cell hlt).trans c0, (hb.cell hlt).trans c1, (hb.cell hlt).trans c2, (hb.cell hlt).trans c3⟩⟩

theorem Offs.at_ {w : World} {A : Option Addr} {len k : Nat} {xs : List Off} (h : Offs w A len xs) (hk : k < len) : ∃ b off o, A = some ⟨b, off, none⟩ ∧ xs[k]? = some o ∧
    w.cell? ⟨b, off + k * 4, none⟩ = some (.int .i64 o.peer) ∧ w.cell? ⟨b, off + k * 4 + 1, none⟩ = some (.int .i64 o.seq) ∧ w.cell? ⟨b, off + k * 4 + 2, none⟩ = some (.int .i64 o.rank) ∧ w.cell? ⟨b, off + k * 4 + 3, none⟩ = some (.int .i64 o.cost) := by
  obtain ⟨b, off, e, _, hc⟩ := h.2 (by omega)
  have hl : k < xs.length := by rw [h.1]; exact hk
  exact ⟨b, off, xs[k], e, List.getElem?_eq_getElem hl, hc k _ (List.getElem?_eq_getElem hl)⟩

/-- What the loop over the offers has found behind k of them. -/
theorem first_step (r : Rte) (xs : List Off) {k : Nat} {o : Off} (h : xs[k]? = some o) : firstF r (xs.take (k + 1)) = pick r (firstF r (xs.take k)) o := by
  unfold firstF
  rw [List.take_add_one, h, List.foldl_append]
  rfl

end Go.Proofs.Ytefnjhdmpnfacaa
