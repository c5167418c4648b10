/- How a slice of moves and a slice of links come in. -/
import Derived.Test.YtefnjhdmpnfacaaFrame
import Derived.Test.YtefnjhdmpnfacaaMeshApply
namespace Go.Proofs.Ytefnjhdmpnfacaa
open Go.ChangeShapes Go.WideShapes Go.RowKit Go.Deep

theorem cells5 : Try.prog.cellsOf 5 = 1 := by kernel_rfl
theorem cells27 : Try.prog.cellsOf 27 = 1 := by kernel_rfl
theorem cells29 : Try.prog.cellsOf 29 = 5 := by kernel_rfl
theorem cells38 : Try.prog.cellsOf 38 = 2 := by kernel_rfl

instance : Inhabited Mv := ⟨⟨0, 0, 0, 0, 0⟩⟩

/-- A row of moves. -/
def MovesAt (w : World) (b off : Nat) (xs : List Mv) : Prop := ∀ (k : Nat) (o : Mv), xs[k]? = some o →
  w.cell? ⟨b, off + k * 5, none⟩ = some (.int .u8 o.what) ∧ w.cell? ⟨b, off + k * 5 + 1, none⟩ = some (.int .u8 o.node) ∧ w.cell? ⟨b, off + k * 5 + 2, none⟩ = some (.int .u8 o.src) ∧ w.cell? ⟨b, off + k * 5 + 3, none⟩ = some (.int .u8 o.late) ∧ w.cell? ⟨b, off + k * 5 + 4, none⟩ = some (.int .u16 o.cost)
/-- A slice of moves that reads as xs. -/
def Moves (w : World) (A : Option Addr) (len : Nat) (xs : List Mv) : Prop :=
  xs.length = len ∧ (∀ x ∈ xs, MvOk x) ∧ (0 < len → ∃ b off, A = some ⟨b, off, none⟩ ∧ b < w.heap.size ∧ MovesAt w b off xs)
/-- A row of links. -/
def LinksAt (w : World) (b off : Nat) (xs : List (Int × Int)) : Prop := ∀ (k : Nat) (o : Int × Int), xs[k]? = some o →
  w.cell? ⟨b, off + k * 2, none⟩ = some (.int .u8 o.1) ∧ w.cell? ⟨b, off + k * 2 + 1, none⟩ = some (.int .u8 o.2)
def Links (w : World) (A : Option Addr) (len : Nat) (xs : List (Int × Int)) : Prop :=
  xs.length = len ∧ (∀ x ∈ xs, (0 ≤ x.1 ∧ x.1 ≤ 255) ∧ 0 ≤ x.2 ∧ x.2 ≤ 255) ∧ (0 < len → ∃ b off, A = some ⟨b, off, none⟩ ∧ b < w.heap.size ∧ LinksAt w b off xs)

theorem Moves.at_ {w w' : World} {A : Option Addr} {len k : Nat} {xs : List Mv} (h : Moves w A len xs) (hb : Below w.heap.size w w') (hk : k < len) : ∃ b off o, A = some ⟨b, off, none⟩ ∧ b < w.heap.size ∧ xs[k]? = some o ∧ MvOk o ∧
    w'.cell? ⟨b, off + k * 5, none⟩ = some (.int .u8 o.what) ∧ w'.cell? ⟨b, off + k * 5 + 1, none⟩ = some (.int .u8 o.node) ∧ w'.cell? ⟨b, off + k * 5 + 2, none⟩ = some (.int .u8 o.src) ∧ w'.cell? ⟨b, off + k * 5 + 3, none⟩ = some (.int .u8 o.late) ∧ w'.cell? ⟨b, off + k * 5 + 4, none⟩ = some (.int .u16 o.cost) := by
  obtain ⟨b, off, e, hl, hc⟩ := h.2.2 (by omega)
  have hkl : k < xs.length := by rw [h.1]; exact hk
  obtain ⟨c0, c1, c2, c3, c4⟩ := hc k _ (List.getElem?_eq_getElem hkl)
  exact ⟨b, off, xs[k], e, hl, List.getElem?_eq_getElem hkl, h.2.1 _ (List.getElem_mem hkl), (hb.cell hl).trans c0, (hb.cell hl).trans c1, (hb.cell hl).trans c2, (hb.cell hl).trans c3, (hb.cell hl).trans c4⟩

theorem Links.at_ {w w' : World} {A : Option Addr} {len k : Nat} {xs : List (Int × Int)} (h : Links w A len xs) (hb : Below w.heap.size w w') (hk : k < len) : ∃ b off o, A = some ⟨b, off, none⟩ ∧ b < w.heap.size ∧ xs[k]? = some o ∧ ((0 ≤ o.1 ∧ o.1 ≤ 255) ∧ 0 ≤ o.2 ∧ o.2 ≤ 255) ∧
    w'.cell? ⟨b, off + k * 2, none⟩ = some (.int .u8 o.1) ∧ w'.cell? ⟨b, off + k * 2 + 1, none⟩ = some (.int .u8 o.2) := by
  obtain ⟨b, off, e, hl, hc⟩ := h.2.2 (by omega)
  have hkl : k < xs.length := by rw [h.1]; exact hk
  obtain ⟨c0, c1⟩ := hc k _ (List.getElem?_eq_getElem hkl)
  exact ⟨b, off, xs[k], e, hl, List.getElem?_eq_getElem hkl, h.2.1 _ (List.getElem_mem hkl), (hb.cell hl).trans c0, (hb.cell hl).trans c1⟩

theorem u8_bd {a : Int} (h : (Lit.int .u8 a).wf = true) : 0 ≤ a ∧ a ≤ 255 := by
  simp only [Lit.wf, Bool.and_eq_true, decide_eq_true_eq] at h
  exact h
theorem u16_bd {a : Int} (h : (Lit.int .u16 a).wf = true) : 0 ≤ a ∧ a ≤ 65535 := by
  simp only [Lit.wf, Bool.and_eq_true, decide_eq_true_eq] at h
  exact h

section
variable {H : Type} {enc : TypeId × Value → H} {w : World} {base : Nat} {sp : Nat → Bool} {held : Bool}

theorem trod_mv {fuel : Nat} {cs : List Value} {x : DataW H × List MemPlace} (h : DataW.trod enc Try.prog w base sp held fuel 29 cs = some x) :
    ∃ o : Mv, cs = [.int .u8 o.what, .int .u8 o.node, .int .u8 o.src, .int .u8 o.late, .int .u16 o.cost] ∧ MvOk o := by
  obtain ⟨ys, n, _, _, hl, hyl, hf⟩ := DataW.trod_struct Try.underlying29 h
  rw [cells29] at hl
  match cs, hl with
  | [c0, c1, c2, c3, c4], _ =>
    match ys, hyl with
    | [y0, y1, y2, y3, y4], _ =>
      have h0 : DataW.trod enc Try.prog w base sp held n 5 (([c0, c1, c2, c3, c4].drop 0).take (Try.prog.cellsOf 5)) = some y0 := hf 0 _ rfl
      have h1 : DataW.trod enc Try.prog w base sp held n 5 (([c0, c1, c2, c3, c4].drop 1).take (Try.prog.cellsOf 5)) = some y1 := hf 1 _ rfl
      have h2 : DataW.trod enc Try.prog w base sp held n 5 (([c0, c1, c2, c3, c4].drop 2).take (Try.prog.cellsOf 5)) = some y2 := hf 2 _ rfl
      have h3 : DataW.trod enc Try.prog w base sp held n 5 (([c0, c1, c2, c3, c4].drop 3).take (Try.prog.cellsOf 5)) = some y3 := hf 3 _ rfl
      have h4 : DataW.trod enc Try.prog w base sp held n 27 (([c0, c1, c2, c3, c4].drop 4).take (Try.prog.cellsOf 27)) = some y4 := hf 4 _ rfl
      rw [cells5] at h0 h1 h2 h3
      rw [cells27] at h4
      obtain ⟨a, e0, _, w0⟩ := DataW.trod_int Try.underlying5 (x := y0) h0
      obtain ⟨b, e1, _, w1⟩ := DataW.trod_int Try.underlying5 (x := y1) h1
      obtain ⟨c, e2, _, w2⟩ := DataW.trod_int Try.underlying5 (x := y2) h2
      obtain ⟨d, e3, _, w3⟩ := DataW.trod_int Try.underlying5 (x := y3) h3
      obtain ⟨f, e4, _, w4⟩ := DataW.trod_int Try.underlying27 (x := y4) h4
      simp at e0 e1 e2 e3 e4
      subst e0 e1 e2 e3 e4
      exact ⟨⟨a, b, c, d, f⟩, rfl, u8_bd w0, u8_bd w1, u8_bd w2, u8_bd w3, u16_bd w4⟩

theorem open_moves {r : Reach} {b0 : Nat} {v : Value} {d : DataW H} {p : List MemPlace} (hv : Value.okWide Try.prog w r b0 22 v) (h : DataW.Trod enc Try.prog w base (fun _ => true) held 22 v d p) :
    ∃ (A : Option Addr) (len cap : Nat) (xs : List Mv), v = .slice A len cap ∧ len ≤ cap ∧ cap ≤ maxLen ∧ Moves w A len xs := by
  obtain ⟨A, len, cap, rfl⟩ := okWide_slice Try.underlying22 hv
  obtain ⟨fuel, hf⟩ := h
  rcases open_slice Try.underlying22 hf with ⟨hcs, _⟩ | ⟨a, l, c, m, n, D, Pl, hcs, _, hl, hm, hmm, _, hi⟩
  · simp [Value.cells] at hcs
    obtain ⟨rfl, rfl, rfl⟩ := hcs
    exact ⟨none, 0, 0, [], rfl, Nat.le_refl _, Nat.zero_le _, rfl, (fun x hx => by cases hx), fun h => absurd h (by omega)⟩
  · simp [Value.cells] at hcs
    obtain ⟨rfl, rfl, rfl⟩ := hcs
    rw [if_pos rfl] at hmm
    have hex : ∀ i, i < len → ∃ o : Mv, MvOk o ∧ ∀ j u, ([.int .u8 o.what, .int .u8 o.node, .int .u8 o.src, .int .u8 o.late, .int .u16 o.cost] : List Value)[j]? = some u → w.cell? ((a.add (i * 5)).add j) = some u := by
      intro i hil
      obtain ⟨cs', hc, ht⟩ := hi i (by omega)
      rw [cells29] at hc
      obtain ⟨o, rfl, hok⟩ := trod_mv ht
      obtain ⟨_, _, hat⟩ := World.cells?_some hc
      refine ⟨o, hok, fun j u hu => ?_⟩
      have hj : j < 5 := by
        have := (List.getElem?_eq_some_iff.1 hu).1
        simpa using this
      rw [hat j hj, hu]
    obtain ⟨f, hff⟩ := choose_lt hex
    refine ⟨some a, len, cap, (List.range len).map f, rfl, hl, hm, by simp, fun x hx => ?_, fun hp => ?_⟩
    · obtain ⟨i, hi, rfl⟩ := List.mem_map.1 hx
      exact (hff i (List.mem_range.1 hi)).1
    obtain ⟨b, off, spot⟩ := a
    have hspot : spot = none := by
      have h0 := (hff 0 hp).2 0 _ rfl
      have h1 := World.cell?_spot h0
      simpa [Addr.add] using h1
    subst hspot
    refine ⟨b, off, rfl, ?_, ?_⟩
    · have h0 := (hff 0 hp).2 0 _ rfl
      simpa [Addr.add] using World.block_lt_of_cell? _ _ h0
    · intro k o ho
      have hk : k < len := by
        have := (List.getElem?_eq_some_iff.1 ho).1
        simpa using this
      have he : f k = o := by simpa [hk] using ho
      have h4 := (hff k hk).2
      rw [he] at h4
      have c0 := h4 0 _ rfl
      have c1 := h4 1 _ rfl
      have c2 := h4 2 _ rfl
      have c3 := h4 3 _ rfl
      have c4 := h4 4 _ rfl
      simp only [Go.WideShapes.add_plain, Nat.add_zero] at c0 c1 c2 c3 c4
      exact ⟨c0, c1, c2, c3, c4⟩

end
end Go.Proofs.Ytefnjhdmpnfacaa
