/- What the rows of this seat share: from the condition on the table of costs to its cells; a start that meets it. -/
import Derived.Test.YthjaifdlnponcaaDoorHead
import Derived.ChangeSame
import Derived.ChangeVars
import Derived.JoinedOf
import Derived.RowKit
import Derived.LaidLaws
import Derived.Lib.SmallJoins
import Derived.OpenShut
import Derived.ChangeOld
import Derived.Carry
namespace Go.Proofs.YthjaifdlnponcaaDoor
open Go.ChangeShapes Go.WideShapes Go.RowKit Go.Joins

theorem own : ownKnob Tryd.prog.godebug = none := by kernel_rfl
theorem gCosts : Tryd.prog.globalNamed "slotmesh/ledger.costs" = some 0 := by kernel_rfl
theorem gType : (Tryd.prog.globals[0]?).map (·.type) = some 38 := by kernel_rfl
theorem cells38 : Tryd.prog.cellsOf 38 = 3 := by kernel_rfl
theorem cells3 : Tryd.prog.cellsOf 3 = 1 := by kernel_rfl
theorem cells23 : Tryd.prog.cellsOf 23 = 2 := by kernel_rfl

theorem int_of_trod {H : Type} {enc : TypeId × Value → H} {P : Program} {w : World} {base : Nat} {sp : Nat → Bool} {held : Bool} {fuel : Nat} {t : TypeId} {k : IntKind} {c : Value} {y : DataW H × List MemPlace}
    (ht : P.underlying t = some (.int k)) (h : DataW.trod enc P w base sp held fuel t [c] = some y) : ∃ n, c = .int k n ∧ y = (.lit (.int k n), []) := by
  cases fuel with
  | zero => simp [DataW.trod] at h
  | succ fuel =>
    cases c <;> simp [DataW.trod, ht] at h
    rename_i k' n
    obtain ⟨⟨rfl, _⟩, rfl⟩ := h
    exact ⟨n, rfl, rfl⟩

def costCells : Array Value := #[.int .i64 1, .int .i64 40, .int .i64 60]

theorem cells_of_laid {W : World} (h : laidMet Tryd.prog [("slotmesh/ledger.costs", Rows.laid_slotmesh_ledger_costs)] W) : W.var? Tryd.prog "slotmesh/ledger.costs" = some costCells := by
  obtain ⟨ps, ⟨g, t, cs, fuel, p, q, hg, ht, hvar, hd, _, _⟩, _⟩ := h
  obtain rfl := Option.some.inj (gCosts.symm.trans hg)
  obtain rfl := Option.some.inj (gType.symm.trans ht)
  rw [hvar]
  congr 1
  obtain ⟨l⟩ := cs
  cases fuel with
  | zero => simp [DataW.trod] at hd
  | succ fuel =>
    simp only [DataW.trod, Tryd.underlying38, cells38, cells3] at hd
    split at hd
    · rename_i hl
      obtain ⟨c0, c1, c2, rfl⟩ : ∃ c0 c1 c2, l = [c0, c1, c2] := by
        match l, hl with
        | [a, b, c], _ => exact ⟨a, b, c, rfl⟩
      have e : List.range 3 = [0, 1, 2] := rfl
      rw [e] at hd
      simp only [Option.map_eq_some_iff, List.mapM_cons, List.mapM_nil, Option.bind_eq_bind, Option.bind_eq_some_iff, Option.pure_def, Option.some.injEq] at hd
      obtain ⟨xs, ⟨y0, h0, _, ⟨y1, h1, _, ⟨y2, h2, _, rfl, rfl⟩, rfl⟩, rfl⟩, hx⟩ := hd
      obtain ⟨n0, rfl, rfl⟩ := int_of_trod Tryd.underlying3 h0
      obtain ⟨n1, rfl, rfl⟩ := int_of_trod Tryd.underlying3 h1
      obtain ⟨n2, rfl, rfl⟩ := int_of_trod Tryd.underlying3 h2
      simp [Rows.laid_slotmesh_ledger_costs] at hx
      obtain ⟨⟨rfl, rfl, rfl⟩, _⟩ := hx
      rfl
    · cases hd

theorem laid_of {W : World} (h : laidMet Tryd.prog [("slotmesh/ledger.costs", Rows.laid_slotmesh_ledger_costs)] W) : Laid W := by
  have hvar := cells_of_laid h
  have c0 : W.cell? ⟨0, 0, none⟩ = some (.int .i64 1) := World.var?_cell gCosts hvar 0
  exact ⟨World.block_lt_of_cell? W ⟨0, 0, none⟩ c0, c0, World.var?_cell gCosts hvar 1, World.var?_cell gCosts hvar 2⟩

/-- A start in which the table lies as its initialiser lays it. -/
noncomputable def laidWorld (os : Os) : World :=
  { World.holding Tryd.prog os ⟨#[], #[], []⟩ with heap := (World.holding Tryd.prog os ⟨#[], #[], []⟩).heap.modify 0 fun
      | .cells _ t frozen => .cells costCells t frozen
      | o => o }

theorem laidOut : laidOutB Tryd.prog = true := by kernel_rfl

/-- What the walk is told of a slice of integers that came in: it is nil; or it leads to a row of 'cap' cells, the numbers 'zs', each fitting its kind. -/
def IsRow (k : IntKind) (w : World) (a : Option Addr) (len cap : Nat) (zs : List Int) : Prop :=
  (a = none ∧ len = 0 ∧ cap = 0 ∧ zs = []) ∨
  ∃ x, a = some x ∧ len ≤ cap ∧ cap ≤ maxLen ∧ zs.length = cap ∧ (∀ i, i < zs.length → w.cell? (x.add i) = some (.int k (zs.getD i 0))) ∧ ∀ n ∈ zs, (Lit.int k n).wf = true

end Go.Proofs.YthjaifdlnponcaaDoor
