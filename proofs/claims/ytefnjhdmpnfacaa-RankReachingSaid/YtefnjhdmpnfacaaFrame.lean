/- What the rows of this seat share: how routes, distances and slices of offers come in. -/
import Derived.Test.YtefnjhdmpnfacaaHead
import Derived.ChangeSame
import Derived.ChangeOld
import Derived.Carry
import Derived.OpenShut
import Derived.Deep.Slices
namespace Go.Proofs.Ytefnjhdmpnfacaa
open Go.ChangeShapes Go.WideShapes Go.RowKit Go.Deep

theorem own : ownKnob Try.prog.godebug = none := by kernel_rfl
theorem laidOut : laidOutB Try.prog = true := by kernel_rfl
theorem cells3 : Try.prog.cellsOf 3 = 1 := by kernel_rfl
theorem cells41 : Try.prog.cellsOf 41 = 2 := by kernel_rfl
theorem cells43 : Try.prog.cellsOf 43 = 5 := by kernel_rfl
theorem cells45 : Try.prog.cellsOf 45 = 4 := by kernel_rfl

instance : Inhabited Off := ⟨⟨0, 0, 0, 0⟩⟩

section
variable {H : Type} {enc : TypeId × Value → H} {w : World} {base : Nat} {sp : Nat → Bool} {held : Bool}

theorem trod_dst {fuel : Nat} {cs : List Value} {x : DataW H × List MemPlace} (h : DataW.trod enc Try.prog w base sp held fuel 41 cs = some x) :
    ∃ s k : Int, cs = [.int .i64 s, .int .i64 k] ∧ (Lit.int .i64 s).wf = true ∧ (Lit.int .i64 k).wf = true := by
  obtain ⟨ys, n, _, _, hl, hyl, hf⟩ := DataW.trod_struct Try.underlying41 h
  rw [cells41] at hl
  match cs, hl with
  | [c0, c1], _ =>
    match ys, hyl with
    | [y0, y1], _ =>
      have h0 : DataW.trod enc Try.prog w base sp held n 3 (([c0, c1].drop 0).take (Try.prog.cellsOf 3)) = some y0 := hf 0 _ rfl
      have h1 : DataW.trod enc Try.prog w base sp held n 3 (([c0, c1].drop 1).take (Try.prog.cellsOf 3)) = some y1 := hf 1 _ rfl
      rw [cells3] at h0 h1
      obtain ⟨s, e0, _, w0⟩ := DataW.trod_int Try.underlying3 (x := y0) h0
      obtain ⟨k, e1, _, w1⟩ := DataW.trod_int Try.underlying3 (x := y1) h1
      simp at e0 e1
      subst e0 e1
      exact ⟨s, k, rfl, w0, w1⟩

theorem trod_off {fuel : Nat} {cs : List Value} {x : DataW H × List MemPlace} (h : DataW.trod enc Try.prog w base sp held fuel 45 cs = some x) :
    ∃ o : Off, cs = [.int .i64 o.peer, .int .i64 o.seq, .int .i64 o.rank, .int .i64 o.cost] := by
  obtain ⟨ys, n, _, _, hl, hyl, hf⟩ := DataW.trod_struct Try.underlying45 h
  rw [cells45] at hl
  match cs, hl with
  | [c0, c1, c2, c3], _ =>
    match ys, hyl with
    | [y0, y1, y2], _ =>
      have h0 : DataW.trod enc Try.prog w base sp held n 3 (([c0, c1, c2, c3].drop 0).take (Try.prog.cellsOf 3)) = some y0 := hf 0 _ rfl
      have h1 : DataW.trod enc Try.prog w base sp held n 41 (([c0, c1, c2, c3].drop 1).take (Try.prog.cellsOf 41)) = some y1 := hf 1 _ rfl
      have h2 : DataW.trod enc Try.prog w base sp held n 3 (([c0, c1, c2, c3].drop 3).take (Try.prog.cellsOf 3)) = some y2 := hf 2 _ rfl
      rw [cells3] at h0 h2
      rw [cells41] at h1
      obtain ⟨p, e0, _, _⟩ := DataW.trod_int Try.underlying3 (x := y0) h0
      obtain ⟨s, k, e1, _, _⟩ := trod_dst (x := y1) h1
      obtain ⟨c, e2, _, _⟩ := DataW.trod_int Try.underlying3 (x := y2) h2
      simp at e0 e1 e2
      obtain ⟨rfl, rfl⟩ := e1
      subst e0 e2
      exact ⟨⟨p, s, k, c⟩, rfl⟩

theorem trod_rte {fuel : Nat} {cs : List Value} {x : DataW H × List MemPlace} (h : DataW.trod enc Try.prog w base sp held fuel 43 cs = some x) :
    ∃ r : Rte, cs = r.cells.toList ∧ (Lit.int .i64 r.os).wf = true := by
  obtain ⟨ys, n, _, _, hl, hyl, hf⟩ := DataW.trod_struct Try.underlying43 h
  rw [cells43] at hl
  match cs, hl with
  | [c0, c1, c2, c3, c4], _ =>
    match ys, hyl with
    | [y0, y1, y2], _ =>
      have h0 : DataW.trod enc Try.prog w base sp held n 41 (([c0, c1, c2, c3, c4].drop 0).take (Try.prog.cellsOf 41)) = some y0 := hf 0 _ rfl
      have h1 : DataW.trod enc Try.prog w base sp held n 41 (([c0, c1, c2, c3, c4].drop 2).take (Try.prog.cellsOf 41)) = some y1 := hf 1 _ rfl
      have h2 : DataW.trod enc Try.prog w base sp held n 3 (([c0, c1, c2, c3, c4].drop 4).take (Try.prog.cellsOf 3)) = some y2 := hf 2 _ rfl
      rw [cells41] at h0 h1
      rw [cells3] at h2
      obtain ⟨a, b, e0, wa, _⟩ := trod_dst (x := y0) h0
      obtain ⟨c, d, e1, _, _⟩ := trod_dst (x := y1) h1
      obtain ⟨p, e2, _, _⟩ := DataW.trod_int Try.underlying3 (x := y2) h2
      simp at e0 e1 e2
      obtain ⟨rfl, rfl⟩ := e0
      obtain ⟨rfl, rfl⟩ := e1
      subst e2
      exact ⟨⟨a, b, c, d, p⟩, rfl, wa⟩

theorem open_rte {r : Reach} {b0 : Nat} {v : Value} {d : DataW H} {p : List MemPlace} (hv : Value.okWide Try.prog w r b0 43 v) (h : DataW.Trod enc Try.prog w base sp held 43 v d p) : ∃ x : Rte, v = .agg x.cells := by
  obtain ⟨cs, rfl, _⟩ := okWide_struct Try.underlying43 hv
  obtain ⟨fuel, hf⟩ := h
  obtain ⟨x, hx, _⟩ := trod_rte hf
  exact ⟨x, by rw [← Array.toList_inj.1 (show cs.toList = x.cells.toList by simpa [Value.cells] using hx)]⟩

theorem open_dst {r : Reach} {b0 : Nat} {v : Value} {d : DataW H} {p : List MemPlace} (hv : Value.okWide Try.prog w r b0 41 v) (h : DataW.Trod enc Try.prog w base sp held 41 v d p) : ∃ s k : Int, v = .agg #[.int .i64 s, .int .i64 k] := by
  obtain ⟨cs, rfl, _⟩ := okWide_struct Try.underlying41 hv
  obtain ⟨fuel, hf⟩ := h
  obtain ⟨s, k, hx, _, _⟩ := trod_dst hf
  exact ⟨s, k, by rw [← Array.toList_inj.1 (show cs.toList = (#[.int .i64 s, .int .i64 k] : Array Value).toList by simpa [Value.cells] using hx)]⟩

theorem open_offs {r : Reach} {b0 : Nat} {v : Value} {d : DataW H} {p : List MemPlace} (hv : Value.okWide Try.prog w r b0 37 v) (h : DataW.Trod enc Try.prog w base (fun _ => true) held 37 v d p) :
    ∃ (A : Option Addr) (len cap : Nat) (xs : List Off), v = .slice A len cap ∧ len ≤ cap ∧ cap ≤ maxLen ∧ Offs w A len xs := by
  obtain ⟨A, len, cap, rfl⟩ := okWide_slice Try.underlying37 hv
  obtain ⟨fuel, hf⟩ := h
  rcases open_slice Try.underlying37 hf with ⟨hcs, _⟩ | ⟨a, l, c, m, n, D, Pl, hcs, _, hl, hm, hmm, _, hi⟩
  · simp [Value.cells] at hcs
    obtain ⟨rfl, rfl, rfl⟩ := hcs
    exact ⟨none, 0, 0, [], rfl, Nat.le_refl _, Nat.zero_le _, rfl, fun h => absurd h (by omega)⟩
  · simp [Value.cells] at hcs
    obtain ⟨rfl, rfl, rfl⟩ := hcs
    rw [if_pos rfl] at hmm
    have hex : ∀ i, i < len → ∃ o : Off, ∀ j u, ([.int .i64 o.peer, .int .i64 o.seq, .int .i64 o.rank, .int .i64 o.cost] : List Value)[j]? = some u → w.cell? ((a.add (i * 4)).add j) = some u := by
      intro i hil
      obtain ⟨cs', hc, ht⟩ := hi i (by omega)
      rw [cells45] at hc
      obtain ⟨o, rfl⟩ := trod_off ht
      obtain ⟨_, _, hat⟩ := World.cells?_some hc
      refine ⟨o, fun j u hu => ?_⟩
      have hj : j < 4 := by
        have := (List.getElem?_eq_some_iff.1 hu).1
        simpa using this
      rw [hat j hj, hu]
    obtain ⟨f, hff⟩ := choose_lt hex
    refine ⟨some a, len, cap, (List.range len).map f, rfl, hl, hm, by simp, fun hp => ?_⟩
    obtain ⟨b, off, spot⟩ := a
    have hspot : spot = none := by
      have h0 := hff 0 hp 0 _ rfl
      have h1 := World.cell?_spot h0
      simpa [Addr.add] using h1
    subst hspot
    refine ⟨b, off, rfl, ?_, ?_⟩
    · have h0 := hff 0 hp 0 _ rfl
      simpa [Addr.add] using World.block_lt_of_cell? _ _ h0
    · intro k o ho
      have hk : k < len := by
        have := (List.getElem?_eq_some_iff.1 ho).1
        simpa using this
      have he : f k = o := by simpa [hk] using ho
      have h4 := hff k hk
      rw [he] at h4
      have c0 := h4 0 _ rfl
      have c1 := h4 1 _ rfl
      have c2 := h4 2 _ rfl
      have c3 := h4 3 _ rfl
      simp only [Go.WideShapes.add_plain, Nat.add_zero] at c0 c1 c2 c3
      exact ⟨c0, c1, c2, c3⟩

end
end Go.Proofs.Ytefnjhdmpnfacaa
