/- After Choose and Renew of a valid route, it is valid; Least is not worse than before, Own not better than Least, and Own.Seq not less than before. -/
import Derived.Test.YtefnjhdmpnfacaaFrame
import Derived.Test.YtefnjhdmpnfacaaLaws
namespace Go.Proofs.Ytefnjhdmpnfacaa.rankValid
open Go.ChangeShapes Go.WideShapes Go.ChangeAt Go.RowKit Go.BigFrame
set_option linter.unusedVariables false

def Okay (r n : Rte) : Prop := rteB n = true ∧ betB r.ls r.lr n.ls n.lr = false ∧ betB n.os n.orr n.ls n.lr = false ∧ ¬ n.os < r.os

theorem bet_irr (a x : Int) : betB a x a x = false := bet_f (by omega)
theorem okay_self {r : Rte} (hv : rteB r = true) : Okay r r := ⟨hv, bet_irr _ _, (rte_bd hv).2.2.1, by omega⟩
theorem rte_mk {r : Rte} (h : (0 ≤ r.os ∧ r.os ≤ 1000000000 ∧ 0 ≤ r.orr ∧ r.orr ≤ 1000000) ∧ (0 ≤ r.ls ∧ r.ls ≤ 1000000000 ∧ 0 ≤ r.lr ∧ r.lr ≤ 1000000) ∧ betB r.os r.orr r.ls r.lr = false ∧ -1 ≤ r.par ∧ r.par < 60) : rteB r = true := by
  simp only [rteB, dstB, Bool.and_eq_true, Bool.not_eq_true', decide_eq_true_eq]
  exact ⟨⟨⟨h.1, h.2.1⟩, h.2.2.1⟩, h.2.2.2⟩

theorem okay_choose {r : Rte} (xs : List Off) (hv : rteB r = true) : Okay r (chooseF r xs) := by
  by_cases hx : offsB xs = true
  · obtain ⟨⟨a0, a1, a2, a3⟩, ⟨b0, b1, b2, b3⟩, hb, p0, p1⟩ := rte_bd hv
    have hb' := bet_nif.1 hb
    rcases choose_two hv hx with ⟨_, h2⟩ | ⟨b, hm, h1, _, h2⟩
    · rw [h2]
      have h3 : betB r.os 1000000 r.ls r.lr = false := bet_f (by omega)
      exact ⟨rte_mk ⟨⟨a0, a1, by simp, by simp⟩, ⟨b0, b1, b2, b3⟩, h3, by simp, by simp⟩, bet_irr _ _, h3, by simp⟩
    · rw [h2]
      obtain ⟨c0, c1, ⟨c2, c3, c4, c5⟩, c6, c7⟩ := off_bd (offs_mem hx hm)
      rw [poss_iff] at h1
      unfold takeF
      split
      · next ht =>
        have ht' := bet_iff.1 ht
        refine ⟨rte_mk ⟨⟨c2, c3, ?_, ?_⟩, ⟨c2, c3, ?_, ?_⟩, bet_irr _ _, ?_, c1⟩, bet_f ?_, bet_irr _ _, ?_⟩ <;> (simp only; omega)
      · next ht =>
        have ht1 : betB b.seq (b.rank + b.cost) r.ls r.lr = false := by simpa using ht
        refine ⟨rte_mk ⟨⟨c2, c3, ?_, ?_⟩, ⟨b0, b1, b2, b3⟩, ht1, ?_, c1⟩, bet_irr _ _, ht1, ?_⟩ <;> (simp only; omega)
  · unfold chooseF
    rw [if_neg (fun h => hx h.2)]
    exact okay_self hv

theorem okay_renew {r : Rte} (s : Int) (hv : rteB r = true) : Okay r (renewF r s) := by
  obtain ⟨⟨a0, a1, a2, a3⟩, ⟨b0, b1, b2, b3⟩, hb, p0, p1⟩ := rte_bd hv
  have hb' := bet_nif.1 hb
  by_cases h : s ≤ 1000000000 ∧ betB s 0 r.ls r.lr = true
  · rw [renew_yes hv h.1 h.2]
    have ht := bet_iff.1 h.2
    refine ⟨rte_mk ⟨⟨?_, h.1, ?_, ?_⟩, ⟨?_, h.1, ?_, ?_⟩, bet_irr _ _, ?_, ?_⟩, bet_f ?_, bet_irr _ _, ?_⟩ <;> (simp only; omega)
  · unfold renewF
    rw [if_neg (fun k => h k.2)]
    exact okay_self hv

structure VI (w wr : World) (g : Nat) (t : TypeId) (r : Rte) (cs : Array Value) : Prop where
  acc : Below w.heap.size w wr
  k0 : Whole wr w.heap.size 43 r.cells
  arr : Whole wr g t cs
theorem VI.below {w wr wx : World} {g : Nat} {t : TypeId} {r : Rte} {cs : Array Value} (h : VI w wr g t r cs) (hb : Below wr.heap.size wr wx) : VI w wx g t r cs :=
  ⟨below_next hb h.acc h.acc.size, h.k0.below hb h.k0.lt, h.arr.below hb h.arr.lt⟩

set_option maxHeartbeats 8000000 in
set_option maxRecDepth 100000 in
theorem walk (r0 : Rte) (A1 : Option Addr) (len1 cap1 : Nat) (xs1 : List Off) (a2 : Int) (w : World) (hx1 : Offs w A1 len1 xs1) (hl1 : len1 ≤ cap1) (hm1 : cap1 ≤ maxLen) (w2 : (Lit.int .i64 a2).wf = true) :
    Calls Try.prog 7 #[.agg r0.cells, .slice A1 len1 cap1, .int .i64 a2] w fun e w' => e = .returned (.bool true) ∧ Below w.heap.size w w' := by
  obtain ⟨ro, rr, rl, rk, rp⟩ := r0
  unfold Rte.cells
  simp only
  have HX := Lib.hid hx1
  clear hx1
  by_cases hn : 80 < len1
  · have hn' : (80 : Int) < (len1 : Int) := by omega
    go_enter Try.func7, Try.ntmps7
    go_wp2_with fail
    (with_reducible refine (head_any _).mono ?_)
    rintro e w1 ⟨rfl, hb⟩
    go_wp2
    go_ret
    exact ⟨rfl, below_next hb ((Below.refl w.heap.size w).alloc (Nat.le_refl _) (.cells #[.int .i64 ro, .int .i64 rr, .int .i64 rl, .int .i64 rk, .int .i64 rp] 43)) (by simp)⟩
  have hn' : ¬ (80 : Int) < (len1 : Int) := by omega
  have hlen : len1 ≤ 1000000 := by omega
  have HLn := Lib.hid hlen
  clear hlen
  rcases Bool.eq_false_or_eq_true (rteB ⟨ro, rr, rl, rk, rp⟩) with hv | hv
  rotate_left
  · have HV := Lib.hid hv.symm
    clear hv
    go_enter Try.func7, Try.ntmps7
    go_wp2_with fail
    (with_reducible refine (head_any _).mono ?_)
    rintro e w1 ⟨rfl, hb⟩
    have k0 := (Whole.new w 43 #[.int .i64 ro, .int .i64 rr, .int .i64 rl, .int .i64 rk, .int .i64 rp]).below hb (by simp)
    have hB := below_next hb ((Below.refl w.heap.size w).alloc (Nat.le_refl _) (.cells #[.int .i64 ro, .int .i64 rr, .int .i64 rl, .int .i64 rk, .int .i64 rp] 43)) (by simp)
    clear hb
    have HX1 := Lib.hid (HX.out.below hB)
    obtain ⟨c0, c1, c2, c3, c4, _⟩ := Whole.route (r := ⟨ro, rr, rl, rk, rp⟩) k0
    simp only at c0 c1 c2 c3 c4
    go_wp2_with fail
    (with_reducible refine (rvalid_is ro rr rl rk rp false _ HV.out).mono ?_)
    rintro e w2 ⟨rfl, hb⟩
    go_wp2
    go_ret
    exact ⟨rfl, below_next hb hB hB.size⟩
  have HV := Lib.hid hv.symm
  obtain ⟨n, hnn⟩ : ∃ n, n = chooseF ⟨ro, rr, rl, rk, rp⟩ xs1 := ⟨_, rfl⟩
  obtain ⟨m, hmm⟩ : ∃ n, n = renewF ⟨ro, rr, rl, rk, rp⟩ a2 := ⟨_, rfl⟩
  have KN := Lib.hid (okay_choose xs1 hv)
  have KM := Lib.hid (okay_renew a2 hv)
  rw [← hnn] at KN
  rw [← hmm] at KM
  have HN := Lib.hid hnn
  have HM := Lib.hid hmm
  clear hv hnn hmm
  obtain ⟨no, nr, nl, nk, np⟩ := n
  obtain ⟨mo, mr, ml, mk, mp⟩ := m
  go_enter Try.func7, Try.ntmps7
  go_wp2_with fail
  (with_reducible refine (head_any _).mono ?_)
  rintro e w1 ⟨rfl, hb⟩
  have k0 := (Whole.new w 43 #[.int .i64 ro, .int .i64 rr, .int .i64 rl, .int .i64 rk, .int .i64 rp]).below hb (by simp)
  have hB := below_next hb ((Below.refl w.heap.size w).alloc (Nat.le_refl _) (.cells #[.int .i64 ro, .int .i64 rr, .int .i64 rl, .int .i64 rk, .int .i64 rp] 43)) (by simp)
  clear hb
  have HX1 := Lib.hid (HX.out.below hB)
  obtain ⟨c0, c1, c2, c3, c4, _⟩ := Whole.route (r := ⟨ro, rr, rl, rk, rp⟩) k0
  simp only at c0 c1 c2 c3 c4
  go_wp2_with fail
  (with_reducible refine (rvalid_is ro rr rl rk rp true _ HV.out).mono ?_)
  rintro e w2 ⟨rfl, hb⟩
  have HX2 := Lib.hid (HX1.out.below hb)
  clear c0 c1 c2 c3 c4 HX1
  have k0' := k0.below hb k0.lt
  have hB2 := Lib.hid (below_next hb hB hB.size)
  clear k0 hB hb
  obtain ⟨e0, e1, e2, e3, e4, _⟩ := Whole.route (r := ⟨ro, rr, rl, rk, rp⟩) k0'
  simp only at e0 e1 e2 e3 e4
  have hlt := k0'.lt
  have K0 := Lib.hid k0'
  clear k0'
  go_upto_region 4 with fail
  go_cut [26, 27, 28] (fun s l i wx => ∃ (g : Nat) (t : TypeId), s = .slice (some ⟨g, 0, none⟩) 2 2 ∧ l = .int .i64 2 ∧ i = .int .i64 0 ∧ VI w wx g t ⟨ro, rr, rl, rk, rp⟩ #[.int .i64 no, .int .i64 nr, .int .i64 nl, .int .i64 nk, .int .i64 np, .int .i64 mo, .int .i64 mr, .int .i64 ml, .int .i64 mk, .int .i64 mp])
  case first =>
    go_region_held3 (fun W => Below w2.heap.size w2 W ∧ W.cell? ⟨w.heap.size, 0, none⟩ = some (.int .i64 ro) ∧ W.cell? ⟨w.heap.size, 1, none⟩ = some (.int .i64 rr) ∧ W.cell? ⟨w.heap.size, 2, none⟩ = some (.int .i64 rl) ∧ W.cell? ⟨w.heap.size, 3, none⟩ = some (.int .i64 rk) ∧ W.cell? ⟨w.heap.size, 4, none⟩ = some (.int .i64 rp))
      ((refine (fun (K9 : Below w2.heap.size w2 _) => ⟨K9, (K9.cell hlt).trans e0, (K9.cell hlt).trans e1, (K9.cell hlt).trans e2, (K9.cell hlt).trans e3, (K9.cell hlt).trans e4⟩) ?_; repeat (first | (with_reducible exact Below.refl _ _) | (with_reducible assumption) | (with_reducible refine Below.drew ?_) | (with_reducible refine Below.alloc ?_ ?_ _; rotate_left; (first | omega | (simp; omega) | simp)))))
      (first
        | (go_at_call 18; (refine (choose_v ro rr rl rk rp ⟨no, nr, nl, nk, np⟩ xs1 A1 len1 cap1 _ (HX2.out.below (by repeat (first | (with_reducible exact Below.refl _ _) | (with_reducible assumption) | (with_reducible refine Below.drew ?_) | (with_reducible refine Below.alloc ?_ ?_ _; rotate_left; (first | omega | (simp; omega) | simp))))) HLn.out HN.out).mono ?_); rintro e W9 ⟨rfl, hb9⟩; have KB9 : Below w2.heap.size w2 W9 := below_next hb9 (by repeat (first | (with_reducible exact Below.refl _ _) | (with_reducible assumption) | (with_reducible refine Below.drew ?_) | (with_reducible refine Below.alloc ?_ ?_ _; rotate_left; (first | omega | (simp; omega) | simp)))) (by first | omega | (simp; try omega)); have hz9 : w2.heap.size ≤ W9.heap.size := KB9.size; clear hb9)
        | (go_at_call 25; (with_reducible refine (renew_v ro rr rl rk rp a2 ⟨mo, mr, ml, mk, mp⟩ _ HM.out).mono ?_); rintro e W8 ⟨rfl, hb8⟩; have KB8 : Below w2.heap.size w2 W8 := below_next hb8 (by repeat (first | (with_reducible exact Below.refl _ _) | (with_reducible assumption) | (with_reducible refine Below.drew ?_) | (with_reducible refine Below.alloc ?_ ?_ _; rotate_left; (first | omega | (simp; omega) | simp)))) (by first | omega | (simp; try omega)); have hz8 : w2.heap.size ≤ W8.heap.size := KB8.size; clear hb8))
    all_goals
      go_wp2_with fail
      go_meet
      first
      | (with_reducible refine ⟨_, 43, rfl, rfl, rfl, ?_⟩; exact ⟨(below_next KB8 hB2.out hB2.out.size).alloc (below_next KB8 hB2.out hB2.out.size).size _, (K0.out.below KB8 hlt).alloc _, Whole.new W8 43 _⟩)
      | (with_reducible refine ⟨_, 43, rfl, rfl, rfl, ?_⟩; exact ⟨(below_next KB9 hB2.out hB2.out.size).alloc (below_next KB9 hB2.out hB2.out.size).size _, (K0.out.below KB9 hlt).alloc _, Whole.new W9 43 _⟩)
      | trace_state
  case rest =>
    obtain ⟨g, t, rfl, rfl, rfl, hV⟩ := hcut
    obtain ⟨w4, rfl⟩ : ∃ x : World, x = wc := ⟨_, rfl⟩
    have HVI := Lib.hid hV
    clear hV e0 e1 e2 e3 e4 hlt
    go_wp2_with fail
    go_loopw [28] (fun i wr => ∃ k : Nat, k ≤ 2 ∧ i = .int .i64 k ∧ VI w wr g t ⟨ro, rr, rl, rk, rp⟩ #[.int .i64 no, .int .i64 nr, .int .i64 nl, .int .i64 nk, .int .i64 np, .int .i64 mo, .int .i64 mr, .int .i64 ml, .int .i64 mk, .int .i64 mp]) (fun i _ => 2 - (intOf i).toNat)
    case atStart => exact ⟨0, by omega, rfl, HVI.out⟩
    case round =>
      obtain ⟨k, hk, rfl, hI⟩ := hrel
      have lt0 := hI.k0.lt
      have lt1 := hI.arr.lt
      obtain ⟨d0, d1, d2, d3, d4, _⟩ := hI.k0.route
      simp only at d0 d1 d2 d3 d4
      obtain rfl | rfl | rfl : k = 0 ∨ k = 1 ∨ k = 2 := by omega
      · have a0 : wr.cell? ⟨g, 0, none⟩ = some (.int .i64 no) := hI.arr.cell 0
        have a1 : wr.cell? ⟨g, 1, none⟩ = some (.int .i64 nr) := hI.arr.cell 1
        have a2 : wr.cell? ⟨g, 2, none⟩ = some (.int .i64 nl) := hI.arr.cell 2
        have a3 : wr.cell? ⟨g, 3, none⟩ = some (.int .i64 nk) := hI.arr.cell 3
        have a4 : wr.cell? ⟨g, 4, none⟩ = some (.int .i64 np) := hI.arr.cell 4
        obtain ⟨v0, v1, v2, v3⟩ := KN.out
        have V0 := Lib.hid v0.symm
        have V1 := Lib.hid v1.symm
        have V2 := Lib.hid v2.symm
        clear v0 v1 v2
        go_wp2_with fail
        (with_reducible refine (rvalid_is no nr nl nk np true _ V0.out).mono ?_)
        rintro e w6 ⟨rfl, hb⟩
        have kn := (Whole.new wr 43 #[.int .i64 no, .int .i64 nr, .int .i64 nl, .int .i64 nk, .int .i64 np]).below hb (by simp)
        have hI2 := hI.below (below_next hb ((Below.refl _ _).alloc (Nat.le_refl _) _) (by simp))
        clear a0 a1 a2 a3 a4 hb
        obtain ⟨a0, a1, a2, a3, a4, _⟩ := Whole.route (r := ⟨no, nr, nl, nk, np⟩) kn
        obtain ⟨d0, d1, d2, d3, d4, _⟩ := hI2.k0.route
        simp only at a0 a1 a2 a3 a4 d0 d1 d2 d3 d4
        go_wp2_with fail
        (with_reducible refine (better_is rl rk nl nk false _ V1.out).mono ?_)
        rintro e w7 ⟨rfl, hb⟩
        have kn2 := kn.below hb kn.lt
        have hI3 := hI2.below hb
        clear a0 a1 a2 a3 a4 d0 d1 d2 d3 d4 hb kn
        obtain ⟨a0, a1, a2, a3, a4, _⟩ := Whole.route (r := ⟨no, nr, nl, nk, np⟩) kn2
        obtain ⟨d0, d1, d2, d3, d4, _⟩ := hI3.k0.route
        simp only at a0 a1 a2 a3 a4 d0 d1 d2 d3 d4
        go_wp2_with fail
        (with_reducible refine (better_is no nr nl nk false _ V2.out).mono ?_)
        rintro e w8 ⟨rfl, hb⟩
        have kn3 := kn2.below hb kn2.lt
        have hI4 := hI3.below hb
        clear a0 a1 a2 a3 a4 d0 d1 d2 d3 d4 hb kn2
        obtain ⟨a0, a1, a2, a3, a4, _⟩ := Whole.route (r := ⟨no, nr, nl, nk, np⟩) kn3
        obtain ⟨d0, d1, d2, d3, d4, _⟩ := hI4.k0.route
        simp only at a0 a1 a2 a3 a4 d0 d1 d2 d3 d4
        have v3' : decide (no < ro) = false := decide_eq_false (by omega)
        go_wp2
        go_roundw
        case rel => exact ⟨1, by omega, rfl, hI4⟩
        case measure => simp [intOf]
      · have a0 : wr.cell? ⟨g, 5, none⟩ = some (.int .i64 mo) := hI.arr.cell 5
        have a1 : wr.cell? ⟨g, 6, none⟩ = some (.int .i64 mr) := hI.arr.cell 6
        have a2 : wr.cell? ⟨g, 7, none⟩ = some (.int .i64 ml) := hI.arr.cell 7
        have a3 : wr.cell? ⟨g, 8, none⟩ = some (.int .i64 mk) := hI.arr.cell 8
        have a4 : wr.cell? ⟨g, 9, none⟩ = some (.int .i64 mp) := hI.arr.cell 9
        obtain ⟨v0, v1, v2, v3⟩ := KM.out
        have V0 := Lib.hid v0.symm
        have V1 := Lib.hid v1.symm
        have V2 := Lib.hid v2.symm
        clear v0 v1 v2
        go_wp2_with fail
        (with_reducible refine (rvalid_is mo mr ml mk mp true _ V0.out).mono ?_)
        rintro e w6 ⟨rfl, hb⟩
        have kn := (Whole.new wr 43 #[.int .i64 mo, .int .i64 mr, .int .i64 ml, .int .i64 mk, .int .i64 mp]).below hb (by simp)
        have hI2 := hI.below (below_next hb ((Below.refl _ _).alloc (Nat.le_refl _) _) (by simp))
        clear a0 a1 a2 a3 a4 hb
        obtain ⟨a0, a1, a2, a3, a4, _⟩ := Whole.route (r := ⟨mo, mr, ml, mk, mp⟩) kn
        obtain ⟨d0, d1, d2, d3, d4, _⟩ := hI2.k0.route
        simp only at a0 a1 a2 a3 a4 d0 d1 d2 d3 d4
        go_wp2_with fail
        (with_reducible refine (better_is rl rk ml mk false _ V1.out).mono ?_)
        rintro e w7 ⟨rfl, hb⟩
        have kn2 := kn.below hb kn.lt
        have hI3 := hI2.below hb
        clear a0 a1 a2 a3 a4 d0 d1 d2 d3 d4 hb kn
        obtain ⟨a0, a1, a2, a3, a4, _⟩ := Whole.route (r := ⟨mo, mr, ml, mk, mp⟩) kn2
        obtain ⟨d0, d1, d2, d3, d4, _⟩ := hI3.k0.route
        simp only at a0 a1 a2 a3 a4 d0 d1 d2 d3 d4
        go_wp2_with fail
        (with_reducible refine (better_is mo mr ml mk false _ V2.out).mono ?_)
        rintro e w8 ⟨rfl, hb⟩
        have kn3 := kn2.below hb kn2.lt
        have hI4 := hI3.below hb
        clear a0 a1 a2 a3 a4 d0 d1 d2 d3 d4 hb kn2
        obtain ⟨a0, a1, a2, a3, a4, _⟩ := Whole.route (r := ⟨mo, mr, ml, mk, mp⟩) kn3
        obtain ⟨d0, d1, d2, d3, d4, _⟩ := hI4.k0.route
        simp only at a0 a1 a2 a3 a4 d0 d1 d2 d3 d4
        have v3' : decide (mo < ro) = false := decide_eq_false (by omega)
        go_wp2
        go_roundw
        case rel => exact ⟨2, by omega, rfl, hI4⟩
        case measure => simp [intOf]
      · go_wp2
        go_ret
        exact ⟨rfl, hI.acc⟩

set_option maxRecDepth 100000 in
theorem lifted (os : Os) (started : os.Started) (H : Type) (enc : TypeId × Value → H) :
    ReturnsInHanded {} Try.checked os 7 .any (Rows.rankValidSpec.pre6 enc Try.prog Try.f7 Rows.rankValidRow.domain false) (Rows.rankValidSpec.post enc Try.prog Try.f7 false true false false) := by
  refine returnsInHanded_of_change (C := Try.checked) own started (by kernel_rfl) Try.func7
    (ChangeSpec.witness6 (enc := enc) (C := Try.checked) false ⟨#[], #[.agg #[.int .i64 0, .int .i64 0, .int .i64 0, .int .i64 0, .int .i64 0], .slice none 0 0, .int .i64 0], []⟩ 8 (by kernel_rfl) (by kernel_rfl) (by kernel_rfl) (by kernel_rfl)) ?_
  intro W base args ds gs before hval0 hW hcnd _
  have hval : ∀ (j : Nat) t v, Try.f7.params[j]? = some t → args[j]? = some v → Value.okWide Try.prog W .any base t v := hval0
  have hW' := hW
  obtain ⟨p, q, hA0, hV, rfl, hfz, hnd⟩ := hW
  have hA : DataW.TrodAll enc Try.prog W 0 (fun _ => true) true Try.f7.params.toList args.toList ds p := hA0
  rw [Try.params7] at hA hval
  obtain ⟨v0, vs0, d0, ds0, p0, q0, hargs, rfl, rfl, h0, z0⟩ := trodAll_cons hA
  obtain ⟨v1, vs1, d1, ds1, p1, q1, rfl, rfl, rfl, h1, z1⟩ := trodAll_cons z0
  obtain ⟨v2, vs2, d2, ds2, p2, q2, rfl, rfl, rfl, h2, z2⟩ := trodAll_cons z1
  obtain ⟨rfl, rfl, rfl⟩ := trodAll_nil z2
  obtain rfl : args = #[v0, v1, v2] := by cases args; simp_all
  obtain ⟨rfl, rfl⟩ := trodVars_none hV
  have k0 := h0
  have lt0 : ∀ x ∈ p0, x.block < W.heap.size := by obtain ⟨m, hm⟩ := k0; exact DataW.trod_lt m _ _ _ hm
  obtain ⟨r0, rfl⟩ := open_rte (hval 0 43 v0 rfl rfl) h0
  have k1 := h1
  have lt1 : ∀ x ∈ p1, x.block < W.heap.size := by obtain ⟨m, hm⟩ := k1; exact DataW.trod_lt m _ _ _ hm
  obtain ⟨A1, len1, cap1, xs1, rfl, hl1, hm1, hx1⟩ := open_offs (hval 1 37 v1 rfl rfl) h1
  have k2 := h2
  have lt2 : ∀ x ∈ p2, x.block < W.heap.size := by obtain ⟨m, hm⟩ := k2; exact DataW.trod_lt m _ _ _ hm
  obtain ⟨a2, rfl, rfl, rfl, w2⟩ := open_int Try.underlying3 (hval 2 3 v2 rfl rfl) h2
  clear hA0 hval0
  refine (walk r0 A1 len1 cap1 xs1 a2 W hx1 hl1 hm1 w2).mono fun e W' ⟨he, hg⟩ => ?_
  subst he
  exact ⟨_, rfl, _, _, _, [], _, [], hW', trodAll_mk1 (shut_bool Try.underlying4 _), (trodAll_cons_mk (Below.trod laidOut (by kernel_rfl) (of_decide_eq_true (by kernel_rfl)) k0 hg lt0) (trodAll_cons_mk (Below.trod laidOut (by kernel_rfl) (of_decide_eq_true (by kernel_rfl)) k1 hg lt1) (trodAll_cons_mk (Below.trod laidOut (by kernel_rfl) (of_decide_eq_true (by kernel_rfl)) k2 hg lt2) trodAll_mk0))), rfl, hg.frame _, fun h => by cases h⟩

theorem over : Rows.rankValidRow.holds Try.pinned (OpenSpec.ofChange Rows.rankValidSpec) :=
  OpenClaim.holds_of_wide 7 Try.f7 rfl rfl rfl rfl rfl rfl rfl ⟨rfl, rfl, rfl, rfl, rfl⟩ rfl rfl rfl rfl rfl (by kernel_rfl) Try.func7 (by kernel_rfl)
    (of_decide_eq_true (by kernel_rfl)) (by unfold Func.isWrapper; rw [if_neg (of_decide_eq_false (by kernel_rfl))]; exact ⟨rfl, rfl⟩)
    (fun os started H enc _ => lifted os started H enc)

theorem proved : Rows.RankValidSaid := over
#print axioms proved
end Go.Proofs.Ytefnjhdmpnfacaa.rankValid
