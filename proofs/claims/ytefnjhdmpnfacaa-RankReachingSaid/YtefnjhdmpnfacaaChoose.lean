/- The contract of package rank's Choose. -/
import Derived.Test.YtefnjhdmpnfacaaAre
import Derived.Deep.RegionHeld3
import Derived.Deep.DeepCutAuto
namespace Go.Proofs.Ytefnjhdmpnfacaa
open Go.RowKit

theorem choose_not {r : Rte} {xs : List Off} (h : rteB r = false ∨ offsB xs = false) : chooseF r xs = r := by
  unfold chooseF
  rw [if_neg]
  rintro ⟨h1, h2⟩
  rcases h with h | h
  · rw [h] at h1; cases h1
  · rw [h] at h2; cases h2

theorem choose_none {r : Rte} {xs : List Off} (h1 : rteB r = true) (h2 : offsB xs = true) (h : firstF r xs = none) : chooseF r xs = ⟨r.os, 1000000, r.ls, r.lr, -1⟩ := by
  unfold chooseF
  rw [if_pos ⟨h1, h2⟩, h]

theorem choose_some {r : Rte} {xs : List Off} {o : Off} (h1 : rteB r = true) (h2 : offsB xs = true) (h : firstF r xs = some o) : chooseF r xs = takeF r o := by
  unfold chooseF
  rw [if_pos ⟨h1, h2⟩, h]

theorem offs_all {xs : List Off} (h : offsB xs = true) : ∀ o ∈ xs, offB o = true := by
  simp only [offsB, Bool.and_eq_true, List.all_eq_true] at h
  exact h.1

theorem first_in {r : Rte} {xs : List Off} {b : Off} (h : firstF r xs = some b) : b ∈ xs := by
  rcases foldl_mem _ _ b h with h1 | h1
  · exact h1
  · cases h1

/-- A route in a block of the call's own, and a block for the result. -/
structure CI (w wr : World) (r : Rte) : Prop where
  acc : Below w.heap.size w wr
  rte : Whole wr w.heap.size 43 r.cells
  res : Whole wr (w.heap.size + 1) 43 #[.int .i64 0, .int .i64 0, .int .i64 0, .int .i64 0, .int .i64 0]

theorem CI.below {w wr wx : World} {r : Rte} (h : CI w wr r) (hb : Below wr.heap.size wr wx) : CI w wx r :=
  ⟨below_next hb h.acc h.acc.size, h.rte.below hb h.rte.lt, h.res.below hb h.res.lt⟩

theorem CI.new (w : World) (r : Rte) : CI w ((w.alloc (.cells r.cells 43)).alloc (.cells #[.int .i64 0, .int .i64 0, .int .i64 0, .int .i64 0, .int .i64 0] 43)) r :=
  ⟨((Below.refl _ _).alloc (Nat.le_refl _) _).alloc (by simp) _, (Whole.new _ _ _).alloc _, Whole.new_at (by simp)⟩

theorem first_no (r : Rte) (xs : List Off) (A : Option Addr) (len cap rb : Nat) (w : World) (hx : Offs w A len xs) (hr : RAt w rb r) (hv : ∀ o ∈ xs, offB o = true) (hlen : len ≤ 1000000) (hf : firstF r xs = none) :
    Calls Try.prog 38 #[.slice A len cap, .func (.func 36) #[] #[.pointer (some ⟨rb, 0, none⟩)], .func (.func 39) #[] #[]] w fun e w' =>
      e = .returned (.tuple #[.agg #[.int .i64 0, .int .i64 0, .int .i64 0, .int .i64 0], .bool false]) ∧ Below w.heap.size w w' := by
  have h := first_is r xs A len cap rb w hx hr hv hlen
  rw [hf] at h
  exact h

theorem first_yes (r : Rte) (xs : List Off) (A : Option Addr) (len cap rb : Nat) (w : World) (p s k c : Int) (hx : Offs w A len xs) (hr : RAt w rb r) (hv : ∀ o ∈ xs, offB o = true) (hlen : len ≤ 1000000) (hf : firstF r xs = some ⟨p, s, k, c⟩) :
    Calls Try.prog 38 #[.slice A len cap, .func (.func 36) #[] #[.pointer (some ⟨rb, 0, none⟩)], .func (.func 39) #[] #[]] w fun e w' =>
      e = .returned (.tuple #[.agg #[.int .i64 p, .int .i64 s, .int .i64 k, .int .i64 c], .bool true]) ∧ Below w.heap.size w w' := by
  have h := first_is r xs A len cap rb w hx hr hv hlen
  rw [hf] at h
  exact h

theorem done18 {R : Ending → World → Prop} {a : Act} {wx : World} {g : Nat} (r : Rte) (hd : a.defers = []) (ht : a.tmps.getD 4 undef = .pointer (some ⟨g, 0, none⟩)) (hW : Whole wx g 43 r.cells) (hR : R (.returned (.agg r.cells)) wx) :
    bodyPost Try.prog Try.f18 R .ret a wx := by
  obtain ⟨c0, c1, c2, c3, c4, _⟩ := hW.route
  have ht' : a.tmps[4]?.getD undef = .pointer (some ⟨g, 0, none⟩) := by simpa using ht
  exact bodyPost_ret (v := .agg r.cells) (by simp [results, Try.results18, go_sem, ht', c0, c1, c2, c3, c4, Rte.cells]) hd hR

set_option maxHeartbeats 1000000 in
theorem choose_noF (o rr l lr p : Int) (xs : List Off) (A : Option Addr) (len cap : Nat) (w : World) (HX : Hid (Offs w A len xs)) (hlen : len ≤ 1000000) (H1 : Hid (true = rteB ⟨o, rr, l, lr, p⟩)) (H2 : Hid (true = offsB xs)) (HA : Hid (∀ o ∈ xs, offB o = true))
    (HF : Hid (firstF ⟨o, rr, l, lr, p⟩ xs = none)) :
    Calls Try.prog 18 #[.agg #[.int .i64 o, .int .i64 rr, .int .i64 l, .int .i64 lr, .int .i64 p], .slice A len cap] w fun e w' => e = .returned (.agg #[.int .i64 o, .int .i64 1000000, .int .i64 l, .int .i64 lr, .int .i64 (-1)]) ∧ Below w.heap.size w w' := by
  have hmf : ∀ (fn : Fn) (first cap : Array Value) (w : World), (Instr.makeFunc fn first cap).run Try.prog w = .ok (.func fn first cap) w := fun _ _ _ _ => rfl
  go_enter Try.func18, Try.ntmps18
  go_wp2_with fail
  (with_reducible refine (isRoute_is o rr l lr p true _ H1.out).mono ?_)
  rintro e w1 ⟨rfl, hb⟩
  have C1 := (CI.new w ⟨o, rr, l, lr, p⟩).below hb
  clear hb
  obtain ⟨a0, a1, a2, a3, a4, b0, b1, b2, b3, b4⟩ := C1.rte.route
  have z0 : w1.cell? ⟨w.heap.size + 1, 0, none⟩ = some (.int .i64 0) := C1.res.cell 0
  go_wp2_with fail
  (with_reducible refine (areOffers_is xs A len cap true _ (HX.out.below C1.acc) hlen H2.out).mono ?_)
  rintro e w2 ⟨rfl, hb⟩
  have C2 := C1.below hb
  clear C1 hb a0 a1 a2 a3 a4 b0 b1 b2 b3 b4 z0
  go_wp2_with fail
  (with_reducible refine (first_no ⟨o, rr, l, lr, p⟩ xs A len cap w.heap.size _ (HX.out.below C2.acc) C2.rte.rat HA.out hlen HF.out).mono ?_)
  rintro e w3 ⟨rfl, hb⟩
  have C3 := C2.below hb
  clear C2 hb hmf
  obtain ⟨a0, a1, a2, a3, a4, b0, b1, b2, b3, b4⟩ := C3.rte.route
  obtain ⟨z0, z1, z2, z3, z4, y0, y1, y2, y3, y4⟩ := Whole.route (r := ⟨0, 0, 0, 0, 0⟩) C3.res
  have lt0 := C3.rte.lt
  have lt1 := C3.res.lt
  have ne0 : ¬ w.heap.size + 1 = w.heap.size := by omega
  have ne1 : ¬ w.heap.size = w.heap.size + 1 := by omega
  go_wp2_with fail
  refine done18 (g := w.heap.size + 1) ⟨o, 1000000, l, lr, -1⟩ rfl rfl ?_ ⟨rfl, ?_⟩
  · exact ((((((((C3.res.far (by simp) _).far (by simp) _).set 0 _).set 1 _).set 2 _).set 3 _).set 4 _).alloc _)
  · exact (((((((C3.acc.setCell (by simp) _).setCell (by simp) _).setCell (by simp) _).setCell (by simp) _).setCell (by simp) _).setCell (by simp) _).setCell (by simp) _).alloc (by simpa [World.setCell] using C3.acc.size) _

set_option maxHeartbeats 2000000 in
theorem choose_yes (o rr l lr p q s k c : Int) (r' : Rte) (xs : List Off) (A : Option Addr) (len cap : Nat) (w : World) (HX : Hid (Offs w A len xs)) (hlen : len ≤ 1000000) (H1 : Hid (true = rteB ⟨o, rr, l, lr, p⟩)) (H2 : Hid (true = offsB xs)) (HA : Hid (∀ o ∈ xs, offB o = true))
    (HF : Hid (firstF ⟨o, rr, l, lr, p⟩ xs = some ⟨q, s, k, c⟩)) (v0 : 0 ≤ k) (v1 : k ≤ 1000000) (v2 : 1 ≤ c) (v3 : c ≤ 4096) (HT : Hid (r' = takeF ⟨o, rr, l, lr, p⟩ ⟨q, s, k, c⟩)) :
    Calls Try.prog 18 #[.agg #[.int .i64 o, .int .i64 rr, .int .i64 l, .int .i64 lr, .int .i64 p], .slice A len cap] w fun e w' => e = .returned (.agg r'.cells) ∧ Below w.heap.size w w' := by
  have hmf : ∀ (fn : Fn) (first cap : Array Value) (w : World), (Instr.makeFunc fn first cap).run Try.prog w = .ok (.func fn first cap) w := fun _ _ _ _ => rfl
  go_enter Try.func18, Try.ntmps18
  go_wp2_with fail
  (with_reducible refine (isRoute_is o rr l lr p true _ H1.out).mono ?_)
  rintro e w1 ⟨rfl, hb⟩
  have C1 := (CI.new w ⟨o, rr, l, lr, p⟩).below hb
  clear hb
  obtain ⟨a0, a1, a2, a3, a4, b0, b1, b2, b3, b4⟩ := C1.rte.route
  have z0 : w1.cell? ⟨w.heap.size + 1, 0, none⟩ = some (.int .i64 0) := C1.res.cell 0
  go_wp2_with fail
  (with_reducible refine (areOffers_is xs A len cap true _ (HX.out.below C1.acc) hlen H2.out).mono ?_)
  rintro e w2 ⟨rfl, hb⟩
  have C2 := C1.below hb
  clear C1 hb a0 a1 a2 a3 a4 b0 b1 b2 b3 b4 z0
  go_wp2_with fail
  (with_reducible refine (first_yes ⟨o, rr, l, lr, p⟩ xs A len cap w.heap.size _ q s k c (HX.out.below C2.acc) C2.rte.rat HA.out hlen HF.out).mono ?_)
  rintro e w3 ⟨rfl, hb⟩
  have C3 := C2.below hb
  clear C2 hb hmf
  obtain ⟨a0, a1, a2, a3, a4, b0, b1, b2, b3, b4⟩ := C3.rte.route
  have lt0 := C3.rte.lt
  have lt1 := C3.res.lt
  have ne0 : ¬ w.heap.size = w3.heap.size := by omega
  have ne1 : ¬ w3.heap.size = w.heap.size := by omega
  have lt2 : w.heap.size < w3.heap.size + 1 := by omega
  have lt3 : w.heap.size < w3.heap.size + 1 + 1 := by omega
  go_upto_region 8 with fail
  go_cut [] (fun wx => CI w wx ⟨s, k + c, l, lr, q⟩)
  case first =>
    go_region_held3 (fun W => Whole W w3.heap.size 45 #[.int .i64 q, .int .i64 s, .int .i64 k, .int .i64 c] ∧ W.cell? ⟨w3.heap.size, 0, none⟩ = some (.int .i64 q) ∧ W.cell? ⟨w3.heap.size, 1, none⟩ = some (.int .i64 s) ∧ W.cell? ⟨w3.heap.size, 2, none⟩ = some (.int .i64 k) ∧ W.cell? ⟨w3.heap.size, 3, none⟩ = some (.int .i64 c))
      ((refine (fun (K9 : Whole _ w3.heap.size 45 #[.int .i64 q, .int .i64 s, .int .i64 k, .int .i64 c]) => ⟨K9, K9.cell 0, K9.cell 1, K9.cell 2, K9.cell 3⟩) ?_; repeat (first | (with_reducible refine Whole.drew ?_) | (with_reducible refine Whole.new_at ?_; simp [World.setCell]; done) | (with_reducible refine Whole.alloc ?_ _))))
      (first
        | (go_at_call 40; (with_reducible refine (through_ex q s k c _ v0 v1 v2 v3).mono ?_); rintro e w' ⟨rfl, rfl⟩))
    all_goals
      go_wp2_with fail
      go_meet
      have D : CI w (((w3.setCell ⟨w.heap.size, 0, none⟩ (.int .i64 s)).setCell ⟨w.heap.size, 1, none⟩ (.int .i64 (k + c))).setCell ⟨w.heap.size, 4, none⟩ (.int .i64 q)) ⟨s, k + c, l, lr, q⟩ :=
        ⟨((C3.acc.setCell (Nat.le_refl _) _).setCell (Nat.le_refl _) _).setCell (Nat.le_refl _) _, ((C3.rte.set 0 _).set 1 _).set 4 _, ((C3.res.far (by simp) _).far (by simp) _).far (by simp) _⟩
      exact D.below ((((Below.refl _ _).alloc (Nat.le_refl _) _).alloc (by simp) _).alloc (by simp; omega) _).drew
  case rest =>
    have C4 := hcut
    obtain ⟨a0, a1, a2, a3, a4, b0, b1, b2, b3, b4⟩ := C4.rte.route
    have lt0 := C4.rte.lt
    rcases Bool.eq_false_or_eq_true (betB s (k + c) l lr) with hb | hb
    · have hr : r' = ⟨s, k + c, s, k + c, q⟩ := by rw [HT.out, takeF, if_pos hb]
      subst hr
      have HB := Lib.hid hb.symm
      clear hb HT HF HA H1 H2
      go_wp2_with fail
      (with_reducible refine (better_is s (k + c) l lr true _ HB.out).mono ?_)
      rintro e w5 ⟨rfl, hb⟩
      have C5 := C4.below hb
      clear a0 a1 a2 a3 a4 b0 b1 b2 b3 b4 lt0 hb C4
      obtain ⟨a0, a1, a2, a3, a4, b0, b1, b2, b3, b4⟩ := C5.rte.route
      obtain ⟨z0, z1, z2, z3, z4, y0, y1, y2, y3, y4⟩ := Whole.route (r := ⟨0, 0, 0, 0, 0⟩) C5.res
      go_wp2
      refine done18 (g := w.heap.size + 1) ⟨s, k + c, s, k + c, q⟩ rfl rfl ?_ ⟨rfl, ?_⟩
      · exact (((((((C5.res.far (by simp) _).far (by simp) _).set 0 _).set 1 _).set 2 _).set 3 _).set 4 _)
      · exact ((((((C5.acc.setCell (by simp) _).setCell (by simp) _).setCell (by simp) _).setCell (by simp) _).setCell (by simp) _).setCell (by simp) _).setCell (by simp) _
    · have hr : r' = ⟨s, k + c, l, lr, q⟩ := by rw [HT.out, takeF, if_neg (by rw [hb]; exact Bool.false_ne_true)]
      subst hr
      have HB := Lib.hid hb.symm
      clear hb HT HF HA H1 H2
      go_wp2_with fail
      (with_reducible refine (better_is s (k + c) l lr false _ HB.out).mono ?_)
      rintro e w5 ⟨rfl, hb⟩
      have C5 := C4.below hb
      clear a0 a1 a2 a3 a4 b0 b1 b2 b3 b4 lt0 hb C4
      obtain ⟨a0, a1, a2, a3, a4, b0, b1, b2, b3, b4⟩ := C5.rte.route
      obtain ⟨z0, z1, z2, z3, z4, y0, y1, y2, y3, y4⟩ := Whole.route (r := ⟨0, 0, 0, 0, 0⟩) C5.res
      go_wp2
      refine done18 (g := w.heap.size + 1) ⟨s, k + c, l, lr, q⟩ rfl rfl ?_ ⟨rfl, ?_⟩
      · exact (((((C5.res.set 0 _).set 1 _).set 2 _).set 3 _).set 4 _)
      · exact ((((C5.acc.setCell (by simp) _).setCell (by simp) _).setCell (by simp) _).setCell (by simp) _).setCell (by simp) _

set_option maxHeartbeats 1000000 in
theorem choose_is (r : Rte) (xs : List Off) (A : Option Addr) (len cap : Nat) (w : World) (hx : Offs w A len xs) (hlen : len ≤ 1000000) :
    Calls Try.prog 18 #[.agg r.cells, .slice A len cap] w fun e w' => e = .returned (.agg (chooseF r xs).cells) ∧ Below w.heap.size w w' := by
  have hmf : ∀ (fn : Fn) (first cap : Array Value) (w : World), (Instr.makeFunc fn first cap).run Try.prog w = .ok (.func fn first cap) w := fun _ _ _ _ => rfl
  have HX := Lib.hid hx
  clear hx
  obtain ⟨o, rr, l, lr, p⟩ := r
  rcases Bool.eq_false_or_eq_true (rteB ⟨o, rr, l, lr, p⟩) with h1 | h1
  · rcases Bool.eq_false_or_eq_true (offsB xs) with h2 | h2
    · have HA := Lib.hid (offs_all h2)
      rcases hf : firstF ⟨o, rr, l, lr, p⟩ xs with _ | ⟨q, s, k, c⟩
      · rw [choose_none h1 h2 hf]
        exact choose_noF o rr l lr p xs A len cap w HX hlen (Lib.hid h1.symm) (Lib.hid h2.symm) HA (Lib.hid hf)
      · rw [choose_some h1 h2 hf]
        obtain ⟨_, _, ⟨_, _, v0, v1⟩, v2, v3⟩ := off_bd (HA.out ⟨q, s, k, c⟩ (first_in hf))
        exact choose_yes o rr l lr p q s k c _ xs A len cap w HX hlen (Lib.hid h1.symm) (Lib.hid h2.symm) HA (Lib.hid hf) v0 v1 v2 v3 (Lib.hid rfl)
    · rw [choose_not (.inr h2)]
      have H1 := Lib.hid h1.symm
      have H2 := Lib.hid h2.symm
      clear h1 h2
      unfold Rte.cells
      simp only
      go_enter Try.func18, Try.ntmps18
      go_wp2_with fail
      (with_reducible refine (isRoute_is o rr l lr p true _ H1.out).mono ?_)
      rintro e w1 ⟨rfl, hb⟩
      have C1 := (CI.new w ⟨o, rr, l, lr, p⟩).below hb
      clear hb
      obtain ⟨a0, a1, a2, a3, a4, b0, b1, b2, b3, b4⟩ := C1.rte.route
      have z0 : w1.cell? ⟨w.heap.size + 1, 0, none⟩ = some (.int .i64 0) := C1.res.cell 0
      go_wp2_with fail
      (with_reducible refine (areOffers_is xs A len cap false _ (HX.out.below C1.acc) hlen H2.out).mono ?_)
      rintro e w2 ⟨rfl, hb⟩
      have C2 := C1.below hb
      clear a0 a1 a2 a3 a4 b0 b1 b2 b3 b4 z0 hb
      obtain ⟨a0, a1, a2, a3, a4, b0, b1, b2, b3, b4⟩ := C2.rte.route
      obtain ⟨z0, z1, z2, z3, z4, y0, y1, y2, y3, y4⟩ := Whole.route (r := ⟨0, 0, 0, 0, 0⟩) C2.res
      go_wp2
      refine done18 (g := w.heap.size + 1) ⟨o, rr, l, lr, p⟩ rfl rfl ?_ ⟨rfl, ?_⟩
      · exact (((((C2.res.set 0 _).set 1 _).set 2 _).set 3 _).set 4 _)
      · exact ((((C2.acc.setCell (by simp) _).setCell (by simp) _).setCell (by simp) _).setCell (by simp) _).setCell (by simp) _
  · rw [choose_not (.inl h1)]
    have H1 := Lib.hid h1.symm
    clear h1
    unfold Rte.cells
    simp only
    go_enter Try.func18, Try.ntmps18
    go_wp2_with fail
    (with_reducible refine (isRoute_is o rr l lr p false _ H1.out).mono ?_)
    rintro e w2 ⟨rfl, hb⟩
    have C2 := (CI.new w ⟨o, rr, l, lr, p⟩).below hb
    clear hb
    obtain ⟨a0, a1, a2, a3, a4, b0, b1, b2, b3, b4⟩ := C2.rte.route
    obtain ⟨z0, z1, z2, z3, z4, y0, y1, y2, y3, y4⟩ := Whole.route (r := ⟨0, 0, 0, 0, 0⟩) C2.res
    go_wp2
    refine done18 (g := w.heap.size + 1) ⟨o, rr, l, lr, p⟩ rfl rfl ?_ ⟨rfl, ?_⟩
    · exact (((((C2.res.set 0 _).set 1 _).set 2 _).set 3 _).set 4 _)
    · exact ((((C2.acc.setCell (by simp) _).setCell (by simp) _).setCell (by simp) _).setCell (by simp) _).setCell (by simp) _

end Go.Proofs.Ytefnjhdmpnfacaa
