/- Contract of the reference's Choose. -/
import Derived.Test.YtefnjhdmpnfacaaRefMore
import Derived.Deep.QuietTactic
import Derived.BigQuiet
namespace Go.Proofs.Ytefnjhdmpnfacaa
open Go.RowKit

theorem done24 {R : Ending → World → Prop} {a : Act} {wx : World} {g : Nat} (r : Rte) (hd : a.defers = []) (ht : a.tmps.getD 4 undef = .pointer (some ⟨g, 0, none⟩)) (hW : Whole wx g 43 r.cells) (hR : R (.returned (.agg r.cells)) wx) :
    bodyPost Try.prog Try.f24 R .ret a wx := by
  obtain ⟨c0, c1, c2, c3, c4, _⟩ := hW.route
  have ht' : a.tmps[4]?.getD undef = .pointer (some ⟨g, 0, none⟩) := by simpa using ht
  exact bodyPost_ret (v := .agg r.cells) (by simp [results, Try.results24, go_sem, ht', c0, c1, c2, c3, c4, Rte.cells]) hd hR

/-- What the index of the best offer says, behind k of them. -/
def BestAt (r : Rte) (xs : List Off) (k : Nat) (b : Int) : Prop :=
  (b = -1 ∧ firstF r (xs.take k) = none) ∨ ∃ (j : Nat) (o : Off), b = j ∧ j < k ∧ xs[j]? = some o ∧ firstF r (xs.take k) = some o

theorem CI.done {w wr : World} {r : Rte} (h : CI w wr r) : Below w.heap.size w ((((((wr.setCell ⟨w.heap.size + 1, 0, none⟩ (.int .i64 r.os)).setCell ⟨w.heap.size + 1, 1, none⟩ (.int .i64 r.orr)).setCell ⟨w.heap.size + 1, 2, none⟩ (.int .i64 r.ls)).setCell ⟨w.heap.size + 1, 3, none⟩ (.int .i64 r.lr)).setCell ⟨w.heap.size + 1, 4, none⟩ (.int .i64 r.par))) :=
  ((((h.acc.setCell (by simp) _).setCell (by simp) _).setCell (by simp) _).setCell (by simp) _).setCell (by simp) _

set_option maxHeartbeats 4000000 in
theorem rchoose_is (o rr l lr p : Int) (n : Rte) (xs : List Off) (A : Option Addr) (len cap : Nat) (w : World) (hx : Offs w A len xs) (hlen : len ≤ 1000000) (hn : n = chooseF ⟨o, rr, l, lr, p⟩ xs) :
    Calls Try.prog 24 #[.agg #[.int .i64 o, .int .i64 rr, .int .i64 l, .int .i64 lr, .int .i64 p], .slice A len cap] w fun e w' => e = .returned (.agg #[.int .i64 n.os, .int .i64 n.orr, .int .i64 n.ls, .int .i64 n.lr, .int .i64 n.par]) ∧ Below w.heap.size w w' := by
  have HX := Lib.hid hx
  clear hx
  rcases Bool.eq_false_or_eq_true (rteB ⟨o, rr, l, lr, p⟩) with h1 | h1
  rotate_left
  · have e1 : chooseF ⟨o, rr, l, lr, p⟩ xs = ⟨o, rr, l, lr, p⟩ := by unfold chooseF; rw [if_neg]; rintro ⟨h, _⟩; rw [h1] at h; cases h
    rw [e1] at hn
    subst hn
    have H1 := Lib.hid h1.symm
    clear h1 e1
    go_enter Try.func24, Try.ntmps24
    go_wp2_with fail
    (with_reducible refine (rvalid_is o rr l lr p false _ H1.out).mono ?_)
    rintro e w1 ⟨rfl, hb⟩
    have C1 := (CI.new w ⟨o, rr, l, lr, p⟩).below hb
    clear hb
    obtain ⟨a0, a1, a2, a3, a4, b0, b1, b2, b3, b4⟩ := C1.rte.route
    obtain ⟨z0, z1, z2, z3, z4, y0, y1, y2, y3, y4⟩ := Whole.route (r := ⟨0, 0, 0, 0, 0⟩) C1.res
    have lt0 := C1.rte.lt
    go_wp2
    refine done24 (g := w.heap.size + 1) ⟨o, rr, l, lr, p⟩ rfl rfl ?_ ⟨rfl, ?_⟩
    · exact (((((C1.res.set 0 _).set 1 _).set 2 _).set 3 _).set 4 _)
    · exact C1.done
  rcases Bool.eq_false_or_eq_true (offsB xs) with h2 | h2
  rotate_left
  · have e1 : chooseF ⟨o, rr, l, lr, p⟩ xs = ⟨o, rr, l, lr, p⟩ := by unfold chooseF; rw [if_neg]; rintro ⟨_, h⟩; rw [h2] at h; cases h
    rw [e1] at hn
    subst hn
    have H1 := Lib.hid h1.symm
    have H2 := Lib.hid h2.symm
    clear h1 h2 e1
    go_enter Try.func24, Try.ntmps24
    go_wp2_with fail
    (with_reducible refine (rvalid_is o rr l lr p true _ H1.out).mono ?_)
    rintro e w1 ⟨rfl, hb⟩
    have C0 := (CI.new w ⟨o, rr, l, lr, p⟩).below hb
    clear hb
    go_wp2_with fail
    (with_reducible refine (rOffers_is xs A len cap false _ (HX.out.below C0.acc) hlen H2.out).mono ?_)
    rintro e w2 ⟨rfl, hb⟩
    have C1 := C0.below hb
    clear hb C0
    obtain ⟨a0, a1, a2, a3, a4, b0, b1, b2, b3, b4⟩ := C1.rte.route
    obtain ⟨z0, z1, z2, z3, z4, y0, y1, y2, y3, y4⟩ := Whole.route (r := ⟨0, 0, 0, 0, 0⟩) C1.res
    have lt0 := C1.rte.lt
    go_wp2
    refine done24 (g := w.heap.size + 1) ⟨o, rr, l, lr, p⟩ rfl rfl ?_ ⟨rfl, ?_⟩
    · exact (((((C1.res.set 0 _).set 1 _).set 2 _).set 3 _).set 4 _)
    · exact C1.done
  have H1 := Lib.hid h1.symm
  have H2 := Lib.hid h2.symm
  have HA := Lib.hid (offs_all h2)
  have HNN := Lib.hid (fun h => hn.trans (choose_none h1 h2 h))
  have HNS := Lib.hid (fun o h => hn.trans (choose_some (o := o) h1 h2 h))
  clear h1 h2 hn
  go_enter Try.func24, Try.ntmps24
  go_wp2_with fail
  (with_reducible refine (rvalid_is o rr l lr p true _ H1.out).mono ?_)
  rintro e w1 ⟨rfl, hb⟩
  have C0 := (CI.new w ⟨o, rr, l, lr, p⟩).below hb
  clear hb
  go_wp2_with fail
  (with_reducible refine (rOffers_is xs A len cap true _ (HX.out.below C0.acc) hlen H2.out).mono ?_)
  rintro e w2 ⟨rfl, hb⟩
  have C1 := Lib.hid (C0.below hb)
  clear hb C0
  go_wp2_with fail
  go_loopw [5, 6] (fun bi i wr => ∃ (b : Int) (k : Nat), k ≤ len ∧ i = .int .i64 k ∧ bi = .int .i64 b ∧ Hid (BestAt ⟨o, rr, l, lr, p⟩ xs k b) ∧ CI w wr ⟨o, rr, l, lr, p⟩) (fun _ i _ => len - (intOf i).toNat)
  case atStart => exact ⟨-1, 0, by omega, rfl, rfl, Lib.hid (.inl ⟨rfl, rfl⟩), C1.out⟩
  case round =>
    obtain ⟨b, k, hk, rfl, rfl, HB, hI⟩ := hrel
    by_cases hlt : k < len
    · obtain ⟨bx, off, ⟨q, s, rk, c⟩, rfl, ho, c0, c1, c2, c3⟩ := (HX.out.below hI.acc).at_ hlt
      have hbx : bx < wr.heap.size := World.block_lt_of_cell? _ _ c0
      simp only at c0 c1 c2 c3
      have x0 : ∀ u, (ext wr u).cell? ⟨bx, off + k * 4, none⟩ = some (.int .i64 q) := fun u => (ext_cell wr u hbx).trans c0
      have x1 : ∀ u, (ext wr u).cell? ⟨bx, off + k * 4 + 1, none⟩ = some (.int .i64 s) := fun u => (ext_cell wr u hbx).trans c1
      have x2 : ∀ u, (ext wr u).cell? ⟨bx, off + k * 4 + 2, none⟩ = some (.int .i64 rk) := fun u => (ext_cell wr u hbx).trans c2
      have x3 : ∀ u, (ext wr u).cell? ⟨bx, off + k * 4 + 3, none⟩ = some (.int .i64 c) := fun u => (ext_cell wr u hbx).trans c3
      obtain ⟨d0, d1, d2, d3, d4, _⟩ := hI.rte.route
      simp only at d0 d1 d2 d3 d4
      have lt0 := hI.rte.lt
      have y0 : ∀ u, (ext wr u).cell? ⟨w.heap.size, 0, none⟩ = some (.int .i64 o) := fun u => (ext_cell wr u lt0).trans d0
      have y1 : ∀ u, (ext wr u).cell? ⟨w.heap.size, 1, none⟩ = some (.int .i64 rr) := fun u => (ext_cell wr u lt0).trans d1
      have y2 : ∀ u, (ext wr u).cell? ⟨w.heap.size, 2, none⟩ = some (.int .i64 l) := fun u => (ext_cell wr u lt0).trans d2
      have y3 : ∀ u, (ext wr u).cell? ⟨w.heap.size, 3, none⟩ = some (.int .i64 lr) := fun u => (ext_cell wr u lt0).trans d3
      have y4 : ∀ u, (ext wr u).cell? ⟨w.heap.size, 4, none⟩ = some (.int .i64 p) := fun u => (ext_cell wr u lt0).trans d4
      obtain ⟨_, _, ⟨_, _, v0, v1⟩, v2, v3⟩ := off_bd (HA.out _ (List.mem_of_getElem? ho))
      simp only at v0 v1 v2 v3
      have HO := Lib.hid ho
      have HFS := Lib.hid (first_step ⟨o, rr, l, lr, p⟩ xs ho)
      clear ho c0 c1 c2 c3 d0 d1 d2 d3 d4
      rcases Bool.eq_false_or_eq_true (possB ⟨o, rr, l, lr, p⟩ ⟨q, s, rk, c⟩) with hp | hp
      rotate_left
      · have HP := Lib.hid hp.symm
        have HB' : Hid (BestAt ⟨o, rr, l, lr, p⟩ xs (k + 1) b) := Lib.hid (by
          have e := HFS.out
          rw [pick_no hp] at e
          rcases HB.out with ⟨e1, e2⟩ | ⟨j, oj, e1, e2, e3, e4⟩
          · exact .inl ⟨e1, e.trans e2⟩
          · exact .inr ⟨j, oj, e1, by omega, e3, e.trans e4⟩)
        clear hp HB
        go_wp2_with fail
        refine wp_region_ext (by kernel_rfl) (by kernel_rfl) ?_
        repeat (go_big_quiet_step ((go_at_call 27; with_reducible exact calls_ext (rposs_is o rr l lr p q s rk c false _ HP.out v0 v1 v2 v3))))
        refine wpQuiet_nil ?_
        rintro _ ⟨u, rfl⟩
        go_wp2
        go_roundw
        case rel => exact ⟨b, k + 1, by omega, by go_num, rfl, HB', hI.below (ext_below _ _)⟩
        case measure => simp [intOf]; omega
      have HP := Lib.hid hp.symm
      rcases HB.out with ⟨rfl, e2⟩ | ⟨j, ⟨q', s', rk', c'⟩, rfl, e2, e3, e4⟩
      · have HB' : Hid (BestAt ⟨o, rr, l, lr, p⟩ xs (k + 1) k) := Lib.hid (by
          have e := HFS.out
          rw [e2] at e
          simp only [pick, hp, if_true] at e
          exact .inr ⟨k, _, rfl, by omega, HO.out, e⟩)
        clear hp HB e2
        go_wp2_with fail
        refine wp_region_ext (by kernel_rfl) (by kernel_rfl) ?_
        repeat (go_big_quiet_step ((go_at_call 27; with_reducible exact calls_ext (rposs_is o rr l lr p q s rk c true _ HP.out v0 v1 v2 v3))))
        refine wpQuiet_nil ?_
        rintro _ ⟨u, rfl⟩
        go_wp2
        go_roundw
        case rel => exact ⟨k, k + 1, by omega, by go_num, rfl, HB', hI.below (ext_below _ _)⟩
        case measure => simp [intOf]; omega
      · have hjl : j < len := by omega
        obtain ⟨bx', off', o', e', ho', c0, c1, c2, c3⟩ := (HX.out.below hI.acc).at_ hjl
        cases e'
        have e5 := e3.symm.trans ho'
        cases e5
        simp only at c0 c1 c2 c3
        have z0 : ∀ u, (ext wr u).cell? ⟨bx, off + j * 4, none⟩ = some (.int .i64 q') := fun u => (ext_cell wr u hbx).trans c0
        have z1 : ∀ u, (ext wr u).cell? ⟨bx, off + j * 4 + 1, none⟩ = some (.int .i64 s') := fun u => (ext_cell wr u hbx).trans c1
        have z2 : ∀ u, (ext wr u).cell? ⟨bx, off + j * 4 + 2, none⟩ = some (.int .i64 rk') := fun u => (ext_cell wr u hbx).trans c2
        have z3 : ∀ u, (ext wr u).cell? ⟨bx, off + j * 4 + 3, none⟩ = some (.int .i64 c') := fun u => (ext_cell wr u hbx).trans c3
        obtain ⟨_, _, ⟨_, _, t0, t1⟩, t2, t3⟩ := off_bd (HA.out _ (List.mem_of_getElem? e3))
        simp only at t0 t1 t2 t3
        have E3 := Lib.hid e3
        have hj0 : decide ((j : Int) < 0) = false := decide_eq_false (by omega)
        obtain ⟨vb, hvb⟩ : ∃ x, x = befB ⟨q, s, rk, c⟩ ⟨q', s', rk', c'⟩ := ⟨_, rfl⟩
        have e := HFS.out
        rw [e4] at e
        simp only [pick, hp, if_true, ← hvb] at e
        have HVB := Lib.hid hvb
        cases vb with
        | true =>
          have HB' : Hid (BestAt ⟨o, rr, l, lr, p⟩ xs (k + 1) k) := Lib.hid (.inr ⟨k, _, rfl, by omega, HO.out, by simpa using e⟩)
          clear hp HB e e4 hvb c0 c1 c2 c3 ho' e3
          go_wp2_with fail
          refine wp_region_ext (by kernel_rfl) (by kernel_rfl) ?_
          repeat (go_big_quiet_step ((first
            | (go_at_call 27; with_reducible exact calls_ext (rposs_is o rr l lr p q s rk c true _ HP.out v0 v1 v2 v3))
            | (go_at_call 28; with_reducible exact calls_ext (rbef_is q s rk c q' s' rk' c' true _ HVB.out v0 v1 v2 v3 t0 t1 t2 t3)))))
          refine wpQuiet_nil ?_
          rintro _ ⟨u, rfl⟩
          go_wp2
          go_roundw
          case rel => exact ⟨k, k + 1, by omega, by go_num, rfl, HB', hI.below (ext_below _ _)⟩
          case measure => simp [intOf]; omega
        | false =>
          have HB' : Hid (BestAt ⟨o, rr, l, lr, p⟩ xs (k + 1) j) := Lib.hid (.inr ⟨j, _, rfl, by omega, E3.out, by simpa using e⟩)
          clear hp HB e e4 hvb c0 c1 c2 c3 ho' e3
          go_wp2_with fail
          refine wp_region_ext (by kernel_rfl) (by kernel_rfl) ?_
          repeat (go_big_quiet_step ((first
            | (go_at_call 27; with_reducible exact calls_ext (rposs_is o rr l lr p q s rk c true _ HP.out v0 v1 v2 v3))
            | (go_at_call 28; with_reducible exact calls_ext (rbef_is q s rk c q' s' rk' c' false _ HVB.out v0 v1 v2 v3 t0 t1 t2 t3)))))
          refine wpQuiet_nil ?_
          rintro _ ⟨u, rfl⟩
          go_wp2
          go_roundw
          case rel => exact ⟨j, k + 1, by omega, by go_num, rfl, HB', hI.below (ext_below _ _)⟩
          case measure => simp [intOf]; omega
    · have htk : xs.take k = xs := by
        have hkl : k = xs.length := by have := HX.out.1; omega
        rw [hkl, List.take_length]
      obtain ⟨d0, d1, d2, d3, d4, _⟩ := hI.rte.route
      simp only at d0 d1 d2 d3 d4
      obtain ⟨z0, z1, z2, z3, z4, y0, y1, y2, y3, y4⟩ := Whole.route (r := ⟨0, 0, 0, 0, 0⟩) hI.res
      have lt0 := hI.rte.lt
      have lt1 := hI.res.lt
      rcases HB.out with ⟨rfl, e2⟩ | ⟨j, ⟨q', s', rk', c'⟩, rfl, e2, e3, e4⟩
      · rw [htk] at e2
        have e5 := HNN.out e2
        subst e5
        clear e2 HNN HNS HB htk
        go_wp2
        refine done24 (g := w.heap.size + 1) ⟨o, 1000000, l, lr, -1⟩ rfl rfl ?_ ⟨rfl, ?_⟩
        · exact (((((hI.res.set 0 _).set 1 _).set 2 _).set 3 _).set 4 _)
        · exact ((((hI.acc.setCell (by simp) _).setCell (by simp) _).setCell (by simp) _).setCell (by simp) _).setCell (by simp) _
      · rw [htk] at e4
        have e5 := HNS.out _ e4
        obtain ⟨_, _, ⟨_, _, t0, t1⟩, t2, t3⟩ := off_bd (HA.out _ (List.mem_of_getElem? e3))
        simp only at t0 t1 t2 t3
        have hjl : j < len := by omega
        obtain ⟨bx, off, o', rfl, ho', c0, c1, c2, c3⟩ := (HX.out.below hI.acc).at_ hjl
        have e6 := e3.symm.trans ho'
        cases e6
        simp only at c0 c1 c2 c3
        clear e4 HNN HNS HB htk ho' e3
        have ltA : w.heap.size + 1 < wr.heap.size + 1 := by omega
        have ltB : w.heap.size + 1 < wr.heap.size + 1 + 1 := by omega
        have ltC : w.heap.size < wr.heap.size + 1 := by omega
        have ltD : w.heap.size < wr.heap.size + 1 + 1 := by omega
        have ne1 : ¬ wr.heap.size + 1 = w.heap.size + 1 := by omega
        have ne2 : ¬ w.heap.size + 1 = wr.heap.size + 1 := by omega
        simp only [takeF] at e5
        rcases Bool.eq_false_or_eq_true (betB s' (rk' + c') l lr) with hb | hb
        · rw [if_pos hb] at e5
          subst e5
          have HBB := Lib.hid hb.symm
          clear hb
          go_wp2_with (go_at_call 21; (with_reducible refine (rbetter_is s' (rk' + c') l lr true _ HBB.out).mono ?_); rintro e w' ⟨rfl, rfl⟩)
          refine done24 (g := w.heap.size + 1) ⟨s', rk' + c', s', rk' + c', q'⟩ rfl rfl ?_ ⟨rfl, ?_⟩
          · exact (((((((((hI.res.set 0 _).set 1 _).set 2 _).set 3 _).set 4 _).alloc _).alloc _).alloc _).alloc _)
          · exact (((((((((hI.acc.setCell (by simp) _).setCell (by simp) _).setCell (by simp) _).setCell (by simp) _).setCell (by simp) _).alloc (by simpa [World.setCell] using hI.acc.size) _).alloc (by have := hI.acc.size; simp [World.setCell]; omega) _).alloc (by have := hI.acc.size; simp [World.setCell]; omega) _).alloc (by have := hI.acc.size; simp [World.setCell]; omega) _)
        · rw [if_neg (by rw [hb]; exact Bool.false_ne_true)] at e5
          subst e5
          have HBB := Lib.hid hb.symm
          clear hb
          go_wp2_with (go_at_call 21; (with_reducible refine (rbetter_is s' (rk' + c') l lr false _ HBB.out).mono ?_); rintro e w' ⟨rfl, rfl⟩)
          refine done24 (g := w.heap.size + 1) ⟨s', rk' + c', l, lr, q'⟩ rfl rfl ?_ ⟨rfl, ?_⟩
          · exact (((((((((hI.res.set 0 _).set 1 _).set 2 _).set 3 _).set 4 _).alloc _).alloc _).alloc _).alloc _)
          · exact (((((((((hI.acc.setCell (by simp) _).setCell (by simp) _).setCell (by simp) _).setCell (by simp) _).setCell (by simp) _).alloc (by simpa [World.setCell] using hI.acc.size) _).alloc (by have := hI.acc.size; simp [World.setCell]; omega) _).alloc (by have := hI.acc.size; simp [World.setCell]; omega) _).alloc (by have := hI.acc.size; simp [World.setCell]; omega) _)

end Go.Proofs.Ytefnjhdmpnfacaa
