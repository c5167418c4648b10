/- Contract of the mesh's apply: one move. -/
import Derived.Test.YtefnjhdmpnfacaaMeshApply0
import Derived.Test.YtefnjhdmpnfacaaMeshApply1
import Derived.Test.YtefnjhdmpnfacaaMeshApply2
import Derived.Test.YtefnjhdmpnfacaaMeshApply3
namespace Go.Proofs.Ytefnjhdmpnfacaa
open Go.RowKit

/-- The numbers of a move fit their types. -/
def MvOk (x : Mv) : Prop := (0 ≤ x.what ∧ x.what ≤ 255) ∧ (0 ≤ x.node ∧ x.node ≤ 255) ∧ (0 ≤ x.src ∧ x.src ≤ 255) ∧ (0 ≤ x.late ∧ x.late ≤ 255) ∧ (0 ≤ x.cost ∧ x.cost ≤ 65535)

/-- The mesh is small. -/
structure Small (n : Nat) (m : St) : Prop where
  told : ∀ i, i < n → 0 < (m.told i).length ∧ (m.told i).length ≤ 1000
  heard : ∀ i, i < n → (m.heard i).length ≤ 1000
  seq : 0 ≤ (m.rs 0).os ∧ (m.rs 0).os ≤ 1000000

theorem Inv.small {n N : Nat} {m : St} (h : Inv n N m) (hn : 0 < n) (hN : N ≤ 900) : Small n m :=
  ⟨fun i hi => by have := h.tlen i hi; omega, fun i hi => by have := h.hlen i hi; omega, by have := h.low 0 hn; have := (rte_bd (h.valid 0 hn)).1; omega⟩

theorem apply_is {w : World} {B mb R T H cR cT cH n : Nat} {G : Nat → Prop} {m : St} (hX : MeshX w B mb R T H cR cT cH n G m) (hB : B ≤ w.heap.size) (hn : 2 ≤ n) (hn8 : n ≤ 8) (hs : Small n m) (wh nd sc lt co : Int) (hx : MvOk ⟨wh, nd, sc, lt, co⟩) :
    Calls Try.prog 13 #[.pointer (some ⟨mb, 0, none⟩), .agg #[.int .u8 wh, .int .u8 nd, .int .u8 sc, .int .u8 lt, .int .u16 co]] w fun e w' =>
      e = .returned (.tuple #[]) ∧ MeshX w' B mb R T H cR cT cH n G (stepF n m ⟨wh, nd, sc, lt, co⟩) ∧ Keeps B G w w' := by
  obtain ⟨⟨b4, b5⟩, ⟨b0, b1⟩, ⟨b2, b3⟩, ⟨b6, b7⟩, ⟨b8, b9⟩⟩ := hx
  simp only at b0 b1 b2 b3 b4 b5 b6 b7 b8 b9
  have hn0 : 0 < n := by omega
  have hi := idx_lt hn0 nd
  have hk := idx_lt hn0 sc
  have ei := idx_eq hn0 nd
  have ek := idx_eq hn0 sc
  have h4 : wh % 4 = 0 ∨ wh % 4 = 1 ∨ wh % 4 = 2 ∨ wh % 4 = 3 := by omega
  unfold stepF
  simp only
  rcases h4 with h4 | h4 | h4 | h4
  · rw [if_pos h4]
    by_cases hz : 0 < idx n nd
    · rw [if_pos hz]
      exact apply0_is hX hB hn hn8 _ _ hi hz (hs.heard _ hi) (hs.told _ hi) wh nd sc lt co b0 b1 b2 b3 b4 b5 b6 b7 b8 b9 ei ek h4
    · rw [if_neg hz]
      exact apply0z_is hX hB hn hn8 _ _ hi (by omega) wh nd sc lt co b0 b1 b2 b3 b4 b5 b6 b7 b8 b9 ei ek h4
  · rw [if_neg (by omega), if_pos h4]
    by_cases hik : idx n nd = idx n sc
    · rw [if_pos hik]
      exact apply1e_is hX hB hn hn8 _ _ hi hik wh nd sc lt co b0 b1 b2 b3 b4 b5 b6 b7 b8 b9 ei ek h4
    · rw [if_neg hik]
      exact apply1_is hX hB hn hn8 _ _ hi hk hik (hs.heard _ hi) (hs.told _ hk) wh nd sc lt co b0 b1 b2 b3 b4 b5 b6 b7 b8 b9 ei ek h4
  · rw [if_neg (by omega), if_neg (by omega), if_pos h4]
    exact apply2_is hX hB hn hn8 _ _ hi (hs.told _ hi) wh nd sc lt co b0 b1 b2 b3 b4 b5 b6 b7 b8 b9 ei ek h4
  · rw [if_neg (by omega), if_neg (by omega), if_neg (by omega)]
    exact apply3_is hX hB hn hn8 _ _ (hs.told 0 hn0) hs.seq wh nd sc lt co b0 b1 b2 b3 b4 b5 b6 b7 b8 b9 ei ek h4

end Go.Proofs.Ytefnjhdmpnfacaa
