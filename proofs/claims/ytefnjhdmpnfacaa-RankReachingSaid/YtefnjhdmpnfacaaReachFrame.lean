/- How a slice of links comes in. -/
import Derived.Test.YtefnjhdmpnfacaaFrameMore
import Derived.OpenShut
namespace Go.Proofs.Ytefnjhdmpnfacaa
open Go.ChangeShapes Go.WideShapes Go.RowKit Go.Deep

section
variable {H : Type} {enc : TypeId × Value → H} {w : World} {base : Nat} {sp : Nat → Bool} {held : Bool}

theorem trod_link {fuel : Nat} {cs : List Value} {x : DataW H × List MemPlace} (h : DataW.trod enc Try.prog w base sp held fuel 38 cs = some x) :
    ∃ o : Int × Int, cs = [.int .u8 o.1, .int .u8 o.2] ∧ (0 ≤ o.1 ∧ o.1 ≤ 255) ∧ 0 ≤ o.2 ∧ o.2 ≤ 255 := by
  obtain ⟨ys, n, _, _, hl, hyl, hf⟩ := DataW.trod_array Try.underlying38 h
  rw [cells38] at hl
  match cs, hl with
  | [c0, c1], _ =>
    match ys, hyl with
    | [y0, y1], _ =>
      have h0 : DataW.trod enc Try.prog w base sp held n 5 (([c0, c1].drop (0 * Try.prog.cellsOf 5)).take (Try.prog.cellsOf 5)) = some y0 := hf 0 (by omega)
      have h1 : DataW.trod enc Try.prog w base sp held n 5 (([c0, c1].drop (1 * Try.prog.cellsOf 5)).take (Try.prog.cellsOf 5)) = some y1 := hf 1 (by omega)
      rw [cells5] at h0 h1
      obtain ⟨a, e0, _, w0⟩ := DataW.trod_int Try.underlying5 (x := y0) h0
      obtain ⟨b, e1, _, w1⟩ := DataW.trod_int Try.underlying5 (x := y1) h1
      simp at e0 e1
      subst e0 e1
      exact ⟨(a, b), rfl, u8_bd w0, u8_bd w1⟩

theorem open_links {r : Reach} {b0 : Nat} {v : Value} {d : DataW H} {p : List MemPlace} (hv : Value.okWide Try.prog w r b0 23 v) (h : DataW.Trod enc Try.prog w base (fun _ => true) held 23 v d p) :
    ∃ (A : Option Addr) (len cap : Nat) (xs : List (Int × Int)), v = .slice A len cap ∧ len ≤ cap ∧ cap ≤ maxLen ∧ Links w A len xs := by
  obtain ⟨A, len, cap, rfl⟩ := okWide_slice Try.underlying23 hv
  obtain ⟨fuel, hf⟩ := h
  rcases open_slice Try.underlying23 hf with ⟨hcs, _⟩ | ⟨a, l, c, m, n, D, Pl, hcs, _, hl, hm, hmm, _, hi⟩
  · simp [Value.cells] at hcs
    obtain ⟨rfl, rfl, rfl⟩ := hcs
    exact ⟨none, 0, 0, [], rfl, Nat.le_refl _, Nat.zero_le _, rfl, (fun x hx => by cases hx), fun h => absurd h (by omega)⟩
  · simp [Value.cells] at hcs
    obtain ⟨rfl, rfl, rfl⟩ := hcs
    rw [if_pos rfl] at hmm
    have hex : ∀ i, i < len → ∃ o : Int × Int, ((0 ≤ o.1 ∧ o.1 ≤ 255) ∧ 0 ≤ o.2 ∧ o.2 ≤ 255) ∧ ∀ j u, ([.int .u8 o.1, .int .u8 o.2] : List Value)[j]? = some u → w.cell? ((a.add (i * 2)).add j) = some u := by
      intro i hil
      obtain ⟨cs', hc, ht⟩ := hi i (by omega)
      rw [cells38] at hc
      obtain ⟨o, rfl, hok⟩ := trod_link ht
      obtain ⟨_, _, hat⟩ := World.cells?_some hc
      refine ⟨o, hok, fun j u hu => ?_⟩
      have hj : j < 2 := by
        have := (List.getElem?_eq_some_iff.1 hu).1
        simpa using this
      rw [hat j hj, hu]
    obtain ⟨f, hff⟩ := choose_lt hex
    refine ⟨some a, len, cap, (List.range len).map f, rfl, hl, hm, by simp, fun x hx => ?_, fun hp => ?_⟩
    · obtain ⟨i, hi, rfl⟩ := List.mem_map.1 hx
      exact (hff i (List.mem_range.1 hi)).1
    obtain ⟨b, off, spot⟩ := a
    have hspot : spot = none := by
      have h0 := (hff 0 hp).2 0 _ rfl
      have h1 := World.cell?_spot h0
      simpa [Addr.add] using h1
    subst hspot
    refine ⟨b, off, rfl, ?_, ?_⟩
    · have h0 := (hff 0 hp).2 0 _ rfl
      simpa [Addr.add] using World.block_lt_of_cell? _ _ h0
    · intro k o ho
      have hk : k < len := by
        have := (List.getElem?_eq_some_iff.1 ho).1
        simpa using this
      have he : f k = o := by simpa [hk] using ho
      have h4 := (hff k hk).2
      rw [he] at h4
      have c0 := h4 0 _ rfl
      have c1 := h4 1 _ rfl
      simp only [Go.WideShapes.add_plain, Nat.add_zero] at c0 c1
      exact ⟨c0, c1⟩

end
end Go.Proofs.Ytefnjhdmpnfacaa
