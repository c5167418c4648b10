/- Contracts of Renew, here and in the reference; of the reference's Possible and Before. -/
import Derived.Test.YtefnjhdmpnfacaaRef
namespace Go.Proofs.Ytefnjhdmpnfacaa
open Go.RowKit

theorem renew_not {r : Rte} {seq : Int} (h : rteB r = false ∨ 1000000000 < seq ∨ betB seq 0 r.ls r.lr = false) : renewF r seq = r := by
  unfold renewF
  rw [if_neg]
  rintro ⟨h1, h2, h3⟩
  rcases h with h | h | h
  · rw [h] at h1; cases h1
  · omega
  · rw [h] at h3; cases h3

theorem renew_yes {r : Rte} {seq : Int} (h1 : rteB r = true) (h2 : seq ≤ 1000000000) (h3 : betB seq 0 r.ls r.lr = true) : renewF r seq = ⟨seq, 0, seq, 0, -1⟩ := by
  have h0 : 0 ≤ seq := by
    obtain ⟨_, ⟨b0, _, b1, _⟩, _⟩ := rte_bd h1
    rcases bet_iff.1 h3 with h | ⟨h, _⟩ <;> omega
  unfold renewF
  rw [if_pos ⟨h1, h2, h3⟩, startF, if_pos ⟨h0, h2⟩]
  rfl

theorem done25 {R : Ending → World → Prop} {a : Act} {wx : World} {g : Nat} (r : Rte) (hd : a.defers = []) (ht : a.tmps.getD 4 undef = .pointer (some ⟨g, 0, none⟩)) (hW : Whole wx g 43 r.cells) (hR : R (.returned (.agg r.cells)) wx) :
    bodyPost Try.prog Try.f25 R .ret a wx := by
  obtain ⟨c0, c1, c2, c3, c4, _⟩ := hW.route
  have ht' : a.tmps[4]?.getD undef = .pointer (some ⟨g, 0, none⟩) := by simpa using ht
  exact bodyPost_ret (v := .agg r.cells) (by simp [results, Try.results25, go_sem, ht', c0, c1, c2, c3, c4, Rte.cells]) hd hR

theorem done26 {R : Ending → World → Prop} {a : Act} {wx : World} {g : Nat} (r : Rte) (hd : a.defers = []) (ht : a.tmps.getD 4 undef = .pointer (some ⟨g, 0, none⟩)) (hW : Whole wx g 43 r.cells) (hR : R (.returned (.agg r.cells)) wx) :
    bodyPost Try.prog Try.f26 R .ret a wx := by
  obtain ⟨c0, c1, c2, c3, c4, _⟩ := hW.route
  have ht' : a.tmps[4]?.getD undef = .pointer (some ⟨g, 0, none⟩) := by simpa using ht
  exact bodyPost_ret (v := .agg r.cells) (by simp [results, Try.results26, go_sem, ht', c0, c1, c2, c3, c4, Rte.cells]) hd hR

set_option maxHeartbeats 1000000 in
theorem renew_is (r : Rte) (seq : Int) (w : World) :
    Calls Try.prog 25 #[.agg r.cells, .int .i64 seq] w fun e w' => e = .returned (.agg (renewF r seq).cells) ∧ Below w.heap.size w w' := by
  obtain ⟨o, rr, l, lr, p⟩ := r
  rcases Bool.eq_false_or_eq_true (rteB ⟨o, rr, l, lr, p⟩) with h1 | h1
  · by_cases h2 : 1000000000 < seq
    · rw [renew_not (.inr (.inl h2))]
      have H1 := Lib.hid h1.symm
      clear h1
      unfold Rte.cells
      simp only
      go_enter Try.func25, Try.ntmps25
      go_wp2_with fail
      (with_reducible refine (isRoute_is o rr l lr p true _ H1.out).mono ?_)
      rintro e w1 ⟨rfl, hb⟩
      have C1 := (CI.new w ⟨o, rr, l, lr, p⟩).below hb
      clear hb
      obtain ⟨a0, a1, a2, a3, a4, b0, b1, b2, b3, b4⟩ := C1.rte.route
      obtain ⟨z0, z1, z2, z3, z4, y0, y1, y2, y3, y4⟩ := Whole.route (r := ⟨0, 0, 0, 0, 0⟩) C1.res
      have lt0 := C1.rte.lt
      go_wp2
      refine done25 (g := w.heap.size + 1) ⟨o, rr, l, lr, p⟩ rfl rfl ?_ ⟨rfl, ?_⟩
      · exact (((((C1.res.set 0 _).set 1 _).set 2 _).set 3 _).set 4 _)
      · exact ((((C1.acc.setCell (by simp) _).setCell (by simp) _).setCell (by simp) _).setCell (by simp) _).setCell (by simp) _
    · rcases Bool.eq_false_or_eq_true (betB seq 0 l lr) with h3 | h3
      · rw [renew_yes h1 (by omega) h3]
        have hs : (⟨seq, 0, seq, 0, -1⟩ : Rte) = startF true seq := by
          have := renew_yes h1 (by omega) h3
          unfold renewF at this
          rw [if_pos ⟨h1, by omega, h3⟩] at this
          exact this.symm
        have H1 := Lib.hid h1.symm
        have H3 := Lib.hid h3.symm
        have HS := Lib.hid hs
        clear h1 h3 hs
        unfold Rte.cells
        simp only
        go_enter Try.func25, Try.ntmps25
        go_wp2_with fail
        (with_reducible refine (isRoute_is o rr l lr p true _ H1.out).mono ?_)
        rintro e w1 ⟨rfl, hb⟩
        have C1 := (CI.new w ⟨o, rr, l, lr, p⟩).below hb
        clear hb
        obtain ⟨a0, a1, a2, a3, a4, b0, b1, b2, b3, b4⟩ := C1.rte.route
        obtain ⟨z0, z1, z2, z3, z4, y0, y1, y2, y3, y4⟩ := Whole.route (r := ⟨0, 0, 0, 0, 0⟩) C1.res
        have lt0 := C1.rte.lt
        go_wp2_with fail
        (with_reducible refine (better_is seq 0 l lr true _ H3.out).mono ?_)
        rintro e w2 ⟨rfl, hb⟩
        have C2 := C1.below hb
        clear hb C1 a0 a1 a2 a3 a4 b0 b1 b2 b3 b4 z0 z1 z2 z3 z4 y0 y1 y2 y3 y4 lt0
        go_wp2_with fail
        (with_reducible refine (start_is true seq ⟨seq, 0, seq, 0, -1⟩ _ HS.out).mono ?_)
        rintro e w3 ⟨rfl, hb⟩
        have C1 := C2.below hb
        clear hb C2
        obtain ⟨a0, a1, a2, a3, a4, b0, b1, b2, b3, b4⟩ := C1.rte.route
        obtain ⟨z0, z1, z2, z3, z4, y0, y1, y2, y3, y4⟩ := Whole.route (r := ⟨0, 0, 0, 0, 0⟩) C1.res
        have lt0 := C1.rte.lt
        go_wp2
        refine done25 (g := w.heap.size + 1) ⟨seq, 0, seq, 0, -1⟩ rfl rfl ?_ ⟨rfl, ?_⟩
        · exact (((((C1.res.set 0 _).set 1 _).set 2 _).set 3 _).set 4 _)
        · exact ((((C1.acc.setCell (by simp) _).setCell (by simp) _).setCell (by simp) _).setCell (by simp) _).setCell (by simp) _
      · rw [renew_not (.inr (.inr h3))]
        have H1 := Lib.hid h1.symm
        have H3 := Lib.hid h3.symm
        clear h1 h3
        unfold Rte.cells
        simp only
        go_enter Try.func25, Try.ntmps25
        go_wp2_with fail
        (with_reducible refine (isRoute_is o rr l lr p true _ H1.out).mono ?_)
        rintro e w1 ⟨rfl, hb⟩
        have C1 := (CI.new w ⟨o, rr, l, lr, p⟩).below hb
        clear hb
        obtain ⟨a0, a1, a2, a3, a4, b0, b1, b2, b3, b4⟩ := C1.rte.route
        obtain ⟨z0, z1, z2, z3, z4, y0, y1, y2, y3, y4⟩ := Whole.route (r := ⟨0, 0, 0, 0, 0⟩) C1.res
        have lt0 := C1.rte.lt
        go_wp2_with fail
        (with_reducible refine (better_is seq 0 l lr false _ H3.out).mono ?_)
        rintro e w2 ⟨rfl, hb⟩
        have C2 := C1.below hb
        clear hb a0 a1 a2 a3 a4 b0 b1 b2 b3 b4 z0 z1 z2 z3 z4 y0 y1 y2 y3 y4 lt0
        clear C1
        have C1 := C2
        clear C2
        obtain ⟨a0, a1, a2, a3, a4, b0, b1, b2, b3, b4⟩ := C1.rte.route
        obtain ⟨z0, z1, z2, z3, z4, y0, y1, y2, y3, y4⟩ := Whole.route (r := ⟨0, 0, 0, 0, 0⟩) C1.res
        have lt0 := C1.rte.lt
        go_wp2
        refine done25 (g := w.heap.size + 1) ⟨o, rr, l, lr, p⟩ rfl rfl ?_ ⟨rfl, ?_⟩
        · exact (((((C1.res.set 0 _).set 1 _).set 2 _).set 3 _).set 4 _)
        · exact ((((C1.acc.setCell (by simp) _).setCell (by simp) _).setCell (by simp) _).setCell (by simp) _).setCell (by simp) _
  · rw [renew_not (.inl h1)]
    have H1 := Lib.hid h1.symm
    clear h1
    unfold Rte.cells
    simp only
    go_enter Try.func25, Try.ntmps25
    go_wp2_with fail
    (with_reducible refine (isRoute_is o rr l lr p false _ H1.out).mono ?_)
    rintro e w1 ⟨rfl, hb⟩
    have C1 := (CI.new w ⟨o, rr, l, lr, p⟩).below hb
    clear hb
    obtain ⟨a0, a1, a2, a3, a4, b0, b1, b2, b3, b4⟩ := C1.rte.route
    obtain ⟨z0, z1, z2, z3, z4, y0, y1, y2, y3, y4⟩ := Whole.route (r := ⟨0, 0, 0, 0, 0⟩) C1.res
    have lt0 := C1.rte.lt
    go_wp2
    refine done25 (g := w.heap.size + 1) ⟨o, rr, l, lr, p⟩ rfl rfl ?_ ⟨rfl, ?_⟩
    · exact (((((C1.res.set 0 _).set 1 _).set 2 _).set 3 _).set 4 _)
    · exact ((((C1.acc.setCell (by simp) _).setCell (by simp) _).setCell (by simp) _).setCell (by simp) _).setCell (by simp) _

end Go.Proofs.Ytefnjhdmpnfacaa
