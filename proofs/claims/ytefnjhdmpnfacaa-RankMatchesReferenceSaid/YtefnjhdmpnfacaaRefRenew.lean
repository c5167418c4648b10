/- Contract of the reference's Renew. -/
import Derived.Test.YtefnjhdmpnfacaaOffers
import Derived.Test.YtefnjhdmpnfacaaRenew
namespace Go.Proofs.Ytefnjhdmpnfacaa
open Go.RowKit

/-- Renew's blocks: the route, the result, the distance. -/
structure NI (w wr : World) (r : Rte) (s : Int) : Prop where
  acc : Below w.heap.size w wr
  rte : Whole wr w.heap.size 43 r.cells
  res : Whole wr (w.heap.size + 1) 43 #[.int .i64 0, .int .i64 0, .int .i64 0, .int .i64 0, .int .i64 0]
  dst : Whole wr (w.heap.size + 1 + 1) 41 #[.int .i64 s, .int .i64 0]
theorem NI.below {w wr wx : World} {r : Rte} {s : Int} (h : NI w wr r s) (hb : Below wr.heap.size wr wx) : NI w wx r s :=
  ⟨below_next hb h.acc h.acc.size, h.rte.below hb h.rte.lt, h.res.below hb h.res.lt, h.dst.below hb h.dst.lt⟩
theorem NI.new (w : World) (r : Rte) (s : Int) : NI w (((w.alloc (.cells r.cells 43)).alloc (.cells #[.int .i64 0, .int .i64 0, .int .i64 0, .int .i64 0, .int .i64 0] 43)).alloc (.cells #[.int .i64 s, .int .i64 0] 41)) r s :=
  ⟨(((Below.refl _ _).alloc (Nat.le_refl _) _).alloc (by simp) _).alloc (by simp; omega) _, ((Whole.new _ _ _).alloc _).alloc _, (Whole.new_at (by simp)).alloc _, Whole.new_at (by simp)⟩

set_option maxHeartbeats 2000000 in
theorem rrenew_is (o rr l lr p seq : Int) (n : Rte) (w : World) (hn : n = renewF ⟨o, rr, l, lr, p⟩ seq) :
    Calls Try.prog 26 #[.agg #[.int .i64 o, .int .i64 rr, .int .i64 l, .int .i64 lr, .int .i64 p], .int .i64 seq] w fun e w' => e = .returned (.agg #[.int .i64 n.os, .int .i64 n.orr, .int .i64 n.ls, .int .i64 n.lr, .int .i64 n.par]) ∧ Below w.heap.size w w' := by
  rcases Bool.eq_false_or_eq_true (rteB ⟨o, rr, l, lr, p⟩) with h1 | h1
  · by_cases h2 : 1000000000 < seq
    · rw [renew_not (.inr (.inl h2))] at hn
      subst hn
      have H1 := Lib.hid h1.symm
      clear h1
      go_enter Try.func26, Try.ntmps26
      go_wp2_with fail
      (with_reducible refine (rvalid_is o rr l lr p true _ H1.out).mono ?_)
      rintro e w1 ⟨rfl, hb⟩
      have C1 := (NI.new w ⟨o, rr, l, lr, p⟩ seq).below hb
      clear hb
      obtain ⟨a0, a1, a2, a3, a4, b0, b1, b2, b3, b4⟩ := C1.rte.route
      obtain ⟨z0, z1, z2, z3, z4, y0, y1, y2, y3, y4⟩ := Whole.route (r := ⟨0, 0, 0, 0, 0⟩) C1.res
      have lt0 := C1.rte.lt
      go_wp2
      refine done26 (g := w.heap.size + 1) ⟨o, rr, l, lr, p⟩ rfl rfl ?_ ⟨rfl, ?_⟩
      · exact (((((C1.res.set 0 _).set 1 _).set 2 _).set 3 _).set 4 _)
      · exact ((((C1.acc.setCell (by simp) _).setCell (by simp) _).setCell (by simp) _).setCell (by simp) _).setCell (by simp) _
    · have h2' : ¬ 1000000000 < seq := h2
      rcases Bool.eq_false_or_eq_true (betB seq 0 l lr) with h3 | h3
      · rw [renew_yes h1 (by omega) h3] at hn
        subst hn
        have H1 := Lib.hid h1.symm
        have H3 := Lib.hid h3.symm
        clear h1 h3
        go_enter Try.func26, Try.ntmps26
        go_wp2_with fail
        (with_reducible refine (rvalid_is o rr l lr p true _ H1.out).mono ?_)
        rintro e w1 ⟨rfl, hb⟩
        have C1 := (NI.new w ⟨o, rr, l, lr, p⟩ seq).below hb
        clear hb
        obtain ⟨a0, a1, a2, a3, a4, b0, b1, b2, b3, b4⟩ := C1.rte.route
        have e0 : w1.cell? ⟨w.heap.size + 1 + 1, 0, none⟩ = some (.int .i64 seq) := C1.dst.cell 0
        have e1 : w1.cell? ⟨w.heap.size + 1 + 1, 1, none⟩ = some (.int .i64 0) := C1.dst.cell 1
        obtain ⟨z0, z1, z2, z3, z4, y0, y1, y2, y3, y4⟩ := Whole.route (r := ⟨0, 0, 0, 0, 0⟩) C1.res
        have lt0 := C1.rte.lt
        have lt1 := C1.res.lt
        have lt2 := C1.dst.lt
        have ltb0 : w.heap.size + 1 < w1.heap.size + 1 := by omega
        have ltc0 : w.heap.size + 1 + 1 < w1.heap.size + 1 := by omega
        go_wp2_with (go_at_call 21; (with_reducible refine (rbetter_is seq 0 l lr true _ H3.out).mono ?_); rintro e w' ⟨rfl, rfl⟩)
        refine done26 (g := w.heap.size + 1) ⟨seq, 0, seq, 0, -1⟩ rfl rfl ?_ ⟨rfl, ?_⟩
        · exact ((((((C1.res.set 0 _).set 1 _).set 2 _).set 3 _).set 4 _).alloc _).alloc _
        · exact ((((((C1.acc.setCell (by simp) _).setCell (by simp) _).setCell (by simp) _).setCell (by simp) _).setCell (by simp) _).alloc (by simpa [World.setCell] using C1.acc.size) _).alloc (by have := C1.acc.size; simp [World.setCell]; omega) _
      · rw [renew_not (.inr (.inr h3))] at hn
        subst hn
        have H1 := Lib.hid h1.symm
        have H3 := Lib.hid h3.symm
        clear h1 h3
        go_enter Try.func26, Try.ntmps26
        go_wp2_with fail
        (with_reducible refine (rvalid_is o rr l lr p true _ H1.out).mono ?_)
        rintro e w1 ⟨rfl, hb⟩
        have C1 := (NI.new w ⟨o, rr, l, lr, p⟩ seq).below hb
        clear hb
        obtain ⟨a0, a1, a2, a3, a4, b0, b1, b2, b3, b4⟩ := C1.rte.route
        have e0 : w1.cell? ⟨w.heap.size + 1 + 1, 0, none⟩ = some (.int .i64 seq) := C1.dst.cell 0
        have e1 : w1.cell? ⟨w.heap.size + 1 + 1, 1, none⟩ = some (.int .i64 0) := C1.dst.cell 1
        obtain ⟨z0, z1, z2, z3, z4, y0, y1, y2, y3, y4⟩ := Whole.route (r := ⟨0, 0, 0, 0, 0⟩) C1.res
        have lt0 := C1.rte.lt
        have lt1 := C1.res.lt
        have lt2 := C1.dst.lt
        have lta0 : w.heap.size < w1.heap.size + 1 := by omega
        have ltb0 : w.heap.size + 1 < w1.heap.size + 1 := by omega
        go_wp2_with (go_at_call 21; (with_reducible refine (rbetter_is seq 0 l lr false _ H3.out).mono ?_); rintro e w' ⟨rfl, rfl⟩)
        refine done26 (g := w.heap.size + 1) ⟨o, rr, l, lr, p⟩ rfl rfl ?_ ⟨rfl, ?_⟩
        · exact ((((((C1.res.set 0 _).set 1 _).set 2 _).set 3 _).set 4 _).alloc _).alloc _
        · exact ((((((C1.acc.setCell (by simp) _).setCell (by simp) _).setCell (by simp) _).setCell (by simp) _).setCell (by simp) _).alloc (by simpa [World.setCell] using C1.acc.size) _).alloc (by have := C1.acc.size; simp [World.setCell]; omega) _
  · rw [renew_not (.inl h1)] at hn
    subst hn
    have H1 := Lib.hid h1.symm
    clear h1
    go_enter Try.func26, Try.ntmps26
    go_wp2_with fail
    (with_reducible refine (rvalid_is o rr l lr p false _ H1.out).mono ?_)
    rintro e w1 ⟨rfl, hb⟩
    have C1 := (NI.new w ⟨o, rr, l, lr, p⟩ seq).below hb
    clear hb
    obtain ⟨a0, a1, a2, a3, a4, b0, b1, b2, b3, b4⟩ := C1.rte.route
    obtain ⟨z0, z1, z2, z3, z4, y0, y1, y2, y3, y4⟩ := Whole.route (r := ⟨0, 0, 0, 0, 0⟩) C1.res
    have lt0 := C1.rte.lt
    go_wp2
    refine done26 (g := w.heap.size + 1) ⟨o, rr, l, lr, p⟩ rfl rfl ?_ ⟨rfl, ?_⟩
    · exact (((((C1.res.set 0 _).set 1 _).set 2 _).set 3 _).set 4 _)
    · exact ((((C1.acc.setCell (by simp) _).setCell (by simp) _).setCell (by simp) _).setCell (by simp) _).setCell (by simp) _

end Go.Proofs.Ytefnjhdmpnfacaa
