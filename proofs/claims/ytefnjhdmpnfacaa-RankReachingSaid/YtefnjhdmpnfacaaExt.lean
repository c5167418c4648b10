/- A region that draws its order, whose operations only read what was there when it began, and whose callees only add memory: one walk in the order of the text serves every order. -/
import Derived.Test.YtefnjhdmpnfacaaBase
import Derived.Lib.Hide
import Derived.Deep.QuietTactic
import Derived.BigQuiet
namespace Go.Proofs.Ytefnjhdmpnfacaa
open Go.RowKit

open Classical in
/-- u, where it is w with new memory; else w itself. -/
noncomputable def ext (w u : World) : World := if Below w.heap.size w u then u else w

theorem ext_of {w u : World} (h : Below w.heap.size w u) : ext w u = u := if_pos h

theorem ext_below (w u : World) : Below w.heap.size w (ext w u) := by
  unfold ext
  split
  · assumption
  · exact Below.refl _ _

theorem ext_cell (w u : World) {p : Addr} (h : p.block < w.heap.size) : (ext w u).cell? p = w.cell? p := (ext_below w u).cell h

theorem wp_region_ext {P : Program} {id : Nat} {Q : Exit → Act → World → Prop} {a : Act} {w : World} {l : List Oper} (hm : P.follows .mixedOrders = true) (hB : Region.lexB .any l.toArray = true)
    (h : wpQuiet P l.toArray (fun w' => ∃ u, w' = ext w u) (fun a' => ∀ w', (∃ u, w' = ext w u) → Q .normal a' w') l a) : (Code.region id l.toArray true).wp P Q a w :=
  wp_region_quiet (C := fun w' => ∃ u, w' = ext w u) hm hB ⟨w.drew, (ext_of (Below.refl _ _).drew).symm⟩ (by simpa using h)

theorem calls_ext {P : Program} {f : FuncId} {args : Array Value} {w u : World} {v : Value}
    (h : Calls P f args (ext w u) fun e w' => e = .returned v ∧ Below (ext w u).heap.size (ext w u) w') : Calls P f args (ext w u) fun e w'' => e = .returned v ∧ ∃ u', w'' = ext w u' :=
  h.mono fun _ w' ⟨he, hb⟩ => ⟨he, w', (ext_of ((ext_below w u).trans (hb.mono (ext_below w u).size))).symm⟩

theorem calls_ext_same {P : Program} {f : FuncId} {args : Array Value} {w u : World} {v : Value}
    (h : Calls P f args (ext w u) fun e w' => e = .returned v ∧ ext w u = w') : Calls P f args (ext w u) fun e w'' => e = .returned v ∧ ∃ u', w'' = ext w u' :=
  h.mono fun _ _ ⟨he, hb⟩ => ⟨he, u, hb.symm⟩

end Go.Proofs.Ytefnjhdmpnfacaa
