/- The parent that is chosen has the first one of the possible offers; neither the order of the offers matters, nor offers that are not chosen. -/
import Derived.Test.YtefnjhdmpnfacaaFrame
import Derived.Test.YtefnjhdmpnfacaaChoicePlain
import Derived.Test.YtefnjhdmpnfacaaRefMore
import Derived.Test.YtefnjhdmpnfacaaApp
import Derived.Deep.QuietTactic
import Derived.BigQuiet
namespace Go.Proofs.Ytefnjhdmpnfacaa.rankChoice
open Go.ChangeShapes Go.WideShapes Go.ChangeAt Go.RowKit Go.BigFrame
set_option linter.unusedVariables false

theorem OffsAt.below {w w1 : World} {b off B : Nat} {xs : List Off} (h : OffsAt w b off xs) (hb : Below B w w1) (hlt : b < B) : OffsAt w1 b off xs := fun k o ho => by
  obtain ⟨c0, c1, c2, c3⟩ := h k o ho
  exact ⟨(hb.cell hlt).trans c0, (hb.cell hlt).trans c1, (hb.cell hlt).trans c2, (hb.cell hlt).trans c3⟩

theorem any_step {xs : List Off} {k : Nat} {o : Off} (f : Off → Bool) (h : xs[k]? = some o) : (xs.take (k + 1)).any f = ((xs.take k).any f || f o) := by
  rw [take_step h]; simp

structure PI (w wr : World) (nb : Nat) (r n : Rte) : Prop where
  acc : Below w.heap.size w wr
  k0 : Whole wr w.heap.size 43 r.cells
  k1 : Whole wr nb 43 n.cells
theorem PI.below {w wr wx : World} {nb : Nat} {r n : Rte} (h : PI w wr nb r n) (hb : Below wr.heap.size wr wx) : PI w wx nb r n :=
  ⟨below_next hb h.acc h.acc.size, h.k0.below hb h.k0.lt, h.k1.below hb h.k1.lt⟩
/-- A slice made since wr that reads as ys. -/
def Row (v : Value) (n : Nat) (ys : List Off) (wr wx : World) : Prop := ∃ (A : Option Addr) (cp : Nat), v = .slice A n cp ∧ Offs wx A n ys ∧ Below wr.heap.size wr wx

set_option maxHeartbeats 8000000 in
set_option maxRecDepth 100000 in
theorem walk (r0 : Rte) (A1 : Option Addr) (len1 cap1 : Nat) (xs1 : List Off) (a2 : Int) (a3 : Int) (w : World) (hx1 : Offs w A1 len1 xs1) (hl1 : len1 ≤ cap1) (hm1 : cap1 ≤ maxLen) (w2 : (Lit.int .u8 a2).wf = true) (w3 : (Lit.int .u8 a3).wf = true) :
    Calls Try.prog 8 #[.agg r0.cells, .slice A1 len1 cap1, .int .u8 a2, .int .u8 a3] w fun e w' => e = .returned (.bool true) ∧ Below w.heap.size w w' := by
  have WF2 := Lib.hid w2
  have WF3 := Lib.hid w3
  clear w2 w3
  obtain ⟨ro, rr, rl, rk, rp⟩ := r0
  unfold Rte.cells
  simp only
  have HX := Lib.hid hx1
  clear hx1
  by_cases hn : 80 < len1
  · have hn' : (80 : Int) < (len1 : Int) := by omega
    go_enter Try.func8, Try.ntmps8
    go_wp2_with fail
    (with_reducible refine (head_any _).mono ?_)
    rintro e w1 ⟨rfl, hb⟩
    go_wp2
    go_ret
    exact ⟨rfl, below_next hb ((Below.refl w.heap.size w).alloc (Nat.le_refl _) (.cells #[.int .i64 ro, .int .i64 rr, .int .i64 rl, .int .i64 rk, .int .i64 rp] 43)) (by simp)⟩
  have hn' : ¬ (80 : Int) < (len1 : Int) := by omega
  have hlen : len1 ≤ 1000000 := by omega
  have HLn := Lib.hid hlen
  clear hlen
  rcases Bool.eq_false_or_eq_true (rteB ⟨ro, rr, rl, rk, rp⟩) with hv | hv
  rotate_left
  · have HV := Lib.hid hv.symm
    clear hv
    go_enter Try.func8, Try.ntmps8
    go_wp2_with fail
    (with_reducible refine (head_any _).mono ?_)
    rintro e w1 ⟨rfl, hb⟩
    have k0 := (Whole.new w 43 #[.int .i64 ro, .int .i64 rr, .int .i64 rl, .int .i64 rk, .int .i64 rp]).below hb (by simp)
    have hB := below_next hb ((Below.refl w.heap.size w).alloc (Nat.le_refl _) (.cells #[.int .i64 ro, .int .i64 rr, .int .i64 rl, .int .i64 rk, .int .i64 rp] 43)) (by simp)
    clear hb
    have HX1 := Lib.hid (HX.out.below hB)
    obtain ⟨c0, c1, c2, c3, c4, _⟩ := Whole.route (r := ⟨ro, rr, rl, rk, rp⟩) k0
    simp only at c0 c1 c2 c3 c4
    go_wp2_with fail
    (with_reducible refine (rvalid_is ro rr rl rk rp false _ HV.out).mono ?_)
    rintro e w2 ⟨rfl, hb⟩
    go_wp2
    go_ret
    exact ⟨rfl, below_next hb hB hB.size⟩
  have HV := Lib.hid hv.symm
  rcases Bool.eq_false_or_eq_true (offsB xs1) with ho | ho
  rotate_left
  · have HO := Lib.hid ho.symm
    clear hv ho
    go_enter Try.func8, Try.ntmps8
    go_wp2_with fail
    (with_reducible refine (head_any _).mono ?_)
    rintro e w1 ⟨rfl, hb⟩
    have k0 := (Whole.new w 43 #[.int .i64 ro, .int .i64 rr, .int .i64 rl, .int .i64 rk, .int .i64 rp]).below hb (by simp)
    have hB := below_next hb ((Below.refl w.heap.size w).alloc (Nat.le_refl _) (.cells #[.int .i64 ro, .int .i64 rr, .int .i64 rl, .int .i64 rk, .int .i64 rp] 43)) (by simp)
    clear hb
    have HX1 := Lib.hid (HX.out.below hB)
    obtain ⟨c0, c1, c2, c3, c4, _⟩ := Whole.route (r := ⟨ro, rr, rl, rk, rp⟩) k0
    simp only at c0 c1 c2 c3 c4
    go_wp2_with fail
    (with_reducible refine (rvalid_is ro rr rl rk rp true _ HV.out).mono ?_)
    rintro e w2 ⟨rfl, hb⟩
    have HX2 := Lib.hid (HX1.out.below hb)
    clear c0 c1 c2 c3 c4 HX1
    have k0' := k0.below hb k0.lt
    have hB2 := below_next hb hB hB.size
    clear k0 hB hb
    go_wp2_with fail
    (with_reducible refine (rOffers_is xs1 A1 len1 cap1 false _ HX2.out HLn.out HO.out).mono ?_)
    rintro e w3 ⟨rfl, hb3⟩
    go_wp2
    go_ret
    exact ⟨rfl, below_next hb3 hB2 hB2.size⟩
  have HO := Lib.hid ho.symm
  by_cases hz : len1 = 0
  · subst hz
    clear hv ho
    go_enter Try.func8, Try.ntmps8
    go_wp2_with fail
    (with_reducible refine (head_any _).mono ?_)
    rintro e w1 ⟨rfl, hb⟩
    have k0 := (Whole.new w 43 #[.int .i64 ro, .int .i64 rr, .int .i64 rl, .int .i64 rk, .int .i64 rp]).below hb (by simp)
    have hB := below_next hb ((Below.refl w.heap.size w).alloc (Nat.le_refl _) (.cells #[.int .i64 ro, .int .i64 rr, .int .i64 rl, .int .i64 rk, .int .i64 rp] 43)) (by simp)
    clear hb
    have HX1 := Lib.hid (HX.out.below hB)
    obtain ⟨c0, c1, c2, c3, c4, _⟩ := Whole.route (r := ⟨ro, rr, rl, rk, rp⟩) k0
    simp only at c0 c1 c2 c3 c4
    go_wp2_with fail
    (with_reducible refine (rvalid_is ro rr rl rk rp true _ HV.out).mono ?_)
    rintro e w2 ⟨rfl, hb⟩
    have HX2 := Lib.hid (HX1.out.below hb)
    clear c0 c1 c2 c3 c4 HX1
    have k0' := k0.below hb k0.lt
    have hB2 := below_next hb hB hB.size
    clear k0 hB hb
    go_wp2_with fail
    (with_reducible refine (rOffers_is xs1 A1 0 cap1 true _ HX2.out HLn.out HO.out).mono ?_)
    rintro e w3 ⟨rfl, hb3⟩
    go_wp2
    go_ret
    exact ⟨rfl, below_next hb3 hB2 hB2.size⟩
  have hz' : ((len1 : Int) == 0) = false := by simpa using hz
  obtain ⟨n, hnn⟩ : ∃ n, n = chooseF ⟨ro, rr, rl, rk, rp⟩ xs1 := ⟨_, rfl⟩
  have KF := Lib.hid (choice_found hv ho)
  have KO := Lib.hid (fun o hm hp => choice_first (o := o) hv ho hm hp)
  have KT := Lib.hid (fun k => choice_turned hv ho k)
  have KL := Lib.hid (fun i o h hp => choice_fewer (i := i) (o := o) hv ho h hp)
  rw [← hnn] at KF KO KT KL
  have HN := Lib.hid hnn
  have HA := Lib.hid (fun o hm => off_bd (offs_mem (o := o) ho hm))
  clear hv ho hnn
  obtain ⟨no, nr, nl, nk, np⟩ := n
  go_enter Try.func8, Try.ntmps8
  go_wp2_with fail
  (with_reducible refine (head_any _).mono ?_)
  rintro e w1 ⟨rfl, hb⟩
  have k0 := (Whole.new w 43 #[.int .i64 ro, .int .i64 rr, .int .i64 rl, .int .i64 rk, .int .i64 rp]).below hb (by simp)
  have hB := below_next hb ((Below.refl w.heap.size w).alloc (Nat.le_refl _) (.cells #[.int .i64 ro, .int .i64 rr, .int .i64 rl, .int .i64 rk, .int .i64 rp] 43)) (by simp)
  clear hb
  have HX1 := Lib.hid (HX.out.below hB)
  obtain ⟨c0, c1, c2, c3, c4, _⟩ := Whole.route (r := ⟨ro, rr, rl, rk, rp⟩) k0
  simp only at c0 c1 c2 c3 c4
  go_wp2_with fail
  (with_reducible refine (rvalid_is ro rr rl rk rp true _ HV.out).mono ?_)
  rintro e w2 ⟨rfl, hb⟩
  have HX2 := Lib.hid (HX1.out.below hb)
  clear c0 c1 c2 c3 c4 HX1
  have k0' := k0.below hb k0.lt
  have hB2 := below_next hb hB hB.size
  clear k0 hB hb
  go_wp2_with fail
  (with_reducible refine (rOffers_is xs1 A1 len1 cap1 true _ HX2.out HLn.out HO.out).mono ?_)
  rintro e w3 ⟨rfl, hb⟩
  have HX3 := Lib.hid (HX2.out.below hb)
  have k0 := k0'.below hb k0'.lt
  have hB := below_next hb hB2 hB2.size
  clear k0' hB2 hb HX2
  obtain ⟨c0, c1, c2, c3, c4, _⟩ := Whole.route (r := ⟨ro, rr, rl, rk, rp⟩) k0
  simp only at c0 c1 c2 c3 c4
  go_wp2_with fail
  (with_reducible refine (choose_v ro rr rl rk rp ⟨no, nr, nl, nk, np⟩ xs1 A1 len1 cap1 _ HX3.out HLn.out HN.out).mono ?_)
  rintro e w5 ⟨rfl, hb⟩
  have t0 : PI w (w5.alloc (.cells #[.int .i64 no, .int .i64 nr, .int .i64 nl, .int .i64 nk, .int .i64 np] 43)) w5.heap.size ⟨ro, rr, rl, rk, rp⟩ ⟨no, nr, nl, nk, np⟩ :=
    ⟨(below_next hb hB hB.size).alloc (below_next hb hB hB.size).size _, (k0.below hb k0.lt).alloc _, Whole.new w5 43 _⟩
  have T0 := Lib.hid t0
  clear t0 hB k0 hb c0 c1 c2 c3 c4 HX3
  go_wp2_with fail
  go_loopw [11, 45] (fun f i wr => ∃ k : Nat, k ≤ len1 ∧ i = .int .i64 k ∧ f = .bool ((xs1.take k).any (fun o => decide (o.peer = np))) ∧ PI w wr w5.heap.size ⟨ro, rr, rl, rk, rp⟩ ⟨no, nr, nl, nk, np⟩) (fun _ i _ => len1 - (intOf i).toNat)
  case atStart => exact ⟨0, by omega, rfl, rfl, T0.out⟩
  case round =>
    obtain ⟨k, hk, rfl, rfl, hI⟩ := hrel
    by_cases hlt : k < len1
    · obtain ⟨b, off, ⟨p, s, rk', c⟩, rfl, hox, c0, c1, c2, c3⟩ := (HX.out.below hI.acc).at_ hlt
      simp only at c0 c1 c2 c3
      have hom := List.mem_of_getElem? hox
      have HO1 := Lib.hid hox
      obtain ⟨b0, b1, ⟨b2, b3, b4, b5⟩, b6, b7⟩ := HA.out _ hom
      simp only at b0 b1 b2 b3 b4 b5 b6 b7
      obtain ⟨d0, d1, d2, d3, d4, _⟩ := hI.k0.route
      obtain ⟨f0, f1, f2, f3, f4, _⟩ := hI.k1.route
      simp only at d0 d1 d2 d3 d4 f0 f1 f2 f3 f4
      have lt0 := hI.k0.lt
      have lt1 := hI.k1.lt
      by_cases hp : p = np
      rotate_left
      · have hp' : (p == np) = false := by simpa using hp
        have HE := Lib.hid (any_step (fun o => decide (o.peer = np)) hox)
        clear hox hom
        go_wp2
        go_roundw
        case rel => exact ⟨k + 1, by omega, by go_num, by rw [HE.out]; simp [hp], hI.below ((Below.refl _ _).alloc (Nat.le_refl _) _)⟩
        case measure => simp [intOf]; omega
      subst hp
      have HE := Lib.hid (any_step (fun o => decide (o.peer = p)) hox)
      obtain ⟨g0, g1, g2, g3⟩ := KO.out _ hom rfl
      simp only at g1 g2
      have G0 := Lib.hid g0.symm
      have G3 := Lib.hid g3
      have G12 := Lib.hid (And.intro g1 g2)
      clear g0 g1 g2 g3 hox hom
      go_wp2_with fail
      (with_reducible refine (rposs_is ro rr rl rk rp p s rk' c true _ G0.out b4 b5 b6 b7).mono ?_)
      rintro e w6 ⟨rfl, hb⟩
      have hI6 := hI.below (below_next hb ((Below.refl _ _).alloc (Nat.le_refl _) _) (by simp))
      have kO := (Whole.new wr 45 (Off.cells ⟨p, s, rk', c⟩)).below hb (by simp)
      clear hb c0 c1 c2 c3
      clear d0 d1 d2 d3 d4 f0 f1 f2 f3 f4 lt0 lt1
      obtain ⟨d0, d1, d2, d3, d4, _⟩ := hI6.k0.route
      obtain ⟨f0, f1, f2, f3, f4, _⟩ := hI6.k1.route
      simp only at d0 d1 d2 d3 d4 f0 f1 f2 f3 f4
      have lt0 := hI6.k0.lt
      have lt1 := hI6.k1.lt
      obtain ⟨o0, o1, o2, o3, _⟩ := kO.offer
      simp only at o0 o1 o2 o3
      have lto := kO.lt
      rw [G12.out.1] at f0
      rw [G12.out.2] at f1
      have T6 := Lib.hid (And.intro hI6 kO)
      clear kO hI6
      go_wp2_with fail
      clear d0 d1 d2 d3 d4 f0 f1 f2 f3 f4 lt0 lt1 o0 o1 o2 o3 lto
      go_loopw [75] (fun i wy => ∃ k2 : Nat, k2 ≤ len1 ∧ i = .int .i64 k2 ∧ PI w wy w5.heap.size ⟨ro, rr, rl, rk, rp⟩ ⟨no, nr, nl, nk, p⟩ ∧ Whole wy wr.heap.size 45 (Off.cells ⟨p, s, rk', c⟩)) (fun i _ => len1 - (intOf i).toNat)
      case atStart => exact ⟨0, by omega, rfl, T6.out.1, T6.out.2⟩
      case round =>
        obtain ⟨k2, hk2, rfl, hJ, kO⟩ := hrel
        by_cases hlt2 : k2 < len1
        · obtain ⟨b', off', ⟨p2, s2, rk2, cc2⟩, e', hox, c0, c1, c2, c3⟩ := (HX.out.below hJ.acc).at_ hlt2
          cases e'
          simp only at c0 c1 c2 c3
          have hom := List.mem_of_getElem? hox
          obtain ⟨_, _, ⟨_, _, z4, z5⟩, z6, z7⟩ := HA.out _ hom
          simp only at z4 z5 z6 z7
          obtain ⟨d0, d1, d2, d3, d4, _⟩ := hJ.k0.route
          obtain ⟨f0, f1, f2, f3, f4, _⟩ := hJ.k1.route
          simp only at d0 d1 d2 d3 d4 f0 f1 f2 f3 f4
          have lt0 := hJ.k0.lt
          have lt1 := hJ.k1.lt
          obtain ⟨o0, o1, o2, o3, _⟩ := kO.offer
          simp only at o0 o1 o2 o3
          have lto := kO.lt
          obtain ⟨vp, hvp⟩ : ∃ x, x = possB ⟨ro, rr, rl, rk, rp⟩ ⟨p2, s2, rk2, cc2⟩ := ⟨_, rfl⟩
          have HVP := Lib.hid hvp
          cases vp with
          | false =>
            clear hvp hom hox
            go_wp2_with fail
            (with_reducible refine (rposs_is ro rr rl rk rp p2 s2 rk2 cc2 false _ HVP.out z4 z5 z6 z7).mono ?_)
            rintro e w7 ⟨rfl, hb⟩
            have hJ7 := hJ.below (below_next hb ((Below.refl _ _).alloc (Nat.le_refl _) _) (by simp))
            have kO7 := (kO.alloc _).below hb (by simp; omega)
            go_wp2
            go_roundw
            case rel => exact ⟨k2 + 1, by omega, by go_num, hJ7, kO7⟩
            case measure => simp [intOf]; omega
          | true =>
            have HB3 := Lib.hid (G3.out _ hom hvp.symm).symm
            clear hvp hom hox
            go_wp2_with fail
            (with_reducible refine (rposs_is ro rr rl rk rp p2 s2 rk2 cc2 true _ HVP.out z4 z5 z6 z7).mono ?_)
            rintro e w7 ⟨rfl, hb⟩
            have hJ7 := hJ.below (below_next hb ((Below.refl _ _).alloc (Nat.le_refl _) _) (by simp))
            have kO7 := (kO.alloc _).below hb (by simp; omega)
            have kX7 := (Whole.new wr 45 (Off.cells ⟨p2, s2, rk2, cc2⟩)).below hb (by simp)
            clear c0 c1 c2 c3 o0 o1 o2 o3 lto d0 d1 d2 d3 d4 f0 f1 f2 f3 f4 lt0 lt1 hb
            obtain ⟨c0, c1, c2, c3, _⟩ := kX7.offer
            simp only at c0 c1 c2 c3
            obtain ⟨d0, d1, d2, d3, d4, _⟩ := hJ7.k0.route
            obtain ⟨f0, f1, f2, f3, f4, _⟩ := hJ7.k1.route
            simp only at d0 d1 d2 d3 d4 f0 f1 f2 f3 f4
            have lt0 := hJ7.k0.lt
            have lt1 := hJ7.k1.lt
            obtain ⟨o0, o1, o2, o3, _⟩ := kO7.offer
            simp only at o0 o1 o2 o3
            have lto := kO7.lt
            go_wp2_with fail
            (with_reducible refine (rbef_is p2 s2 rk2 cc2 p s rk' c false _ HB3.out z4 z5 z6 z7 b4 b5 b6 b7).mono ?_)
            rintro e w8 ⟨rfl, hb⟩
            have hJ8 := hJ7.below hb
            have kO8 := kO7.below hb kO7.lt
            go_wp2
            go_roundw
            case rel => exact ⟨k2 + 1, by omega, by go_num, hJ8, kO8⟩
            case measure => simp [intOf]; omega
        · go_wp2
          go_roundw
          case rel => exact ⟨k + 1, by omega, by go_num, by rw [HE.out]; simp, hJ⟩
          case measure => simp [intOf]; omega
    · have hkl : k = xs1.length := by have := HX.out.1; omega
      have htk : xs1.take k = xs1 := by rw [hkl, List.take_length]
      rw [htk, KF.out]
      clear hkl htk
      obtain ⟨d0, d1, d2, d3, d4, _⟩ := hI.k0.route
      obtain ⟨f0, f1, f2, f3, f4, _⟩ := hI.k1.route
      simp only at d0 d1 d2 d3 d4 f0 f1 f2 f3 f4
      have lt0 := hI.k0.lt
      have lt1 := hI.k1.lt
      have I1 := Lib.hid hI
      have hI0 := hI
      clear hI
      obtain ⟨kt, hkt, hkl⟩ : ∃ kt : Nat, a2 % (len1 : Int) = kt ∧ kt < len1 := ⟨(a2 % (len1 : Int)).toNat, by have := Int.emod_nonneg a2 (show (len1 : Int) ≠ 0 by omega); omega, by have := Int.emod_nonneg a2 (show (len1 : Int) ≠ 0 by omega); have := Int.emod_lt_of_pos a2 (show (0 : Int) < len1 by omega); omega⟩
      obtain ⟨hb20, hb21⟩ : 0 ≤ a2 ∧ a2 ≤ 255 := by
        have h := WF2.out
        simp only [Lit.wf, Bool.and_eq_true, decide_eq_true_eq] at h
        exact h
      have hlp : (0 : Int) < (len1 : Int) := by omega
      have hlz : ¬ (len1 : Int) = 0 := by omega
      obtain ⟨b, off, rfl, hlb, hat⟩ := (HX.out.below hI0.acc).2 (by omega)
      have HAT := Lib.hid hat
      clear hat
      have s0 : (0 : Int) ≤ (kt : Int) := Int.natCast_nonneg _
      have s1 : (kt : Int) ≤ (len1 : Int) := by omega
      have s2 : (len1 : Int) ≤ (cap1 : Int) := by omega
      have s3 : (kt : Int) ≤ (cap1 : Int) := by omega
      have s4 : kt ≤ len1 := by omega
      have s5 : kt ≤ cap1 := by omega
      have s6 : ¬ cap1 = kt := by omega
      obtain ⟨it, hit, hil⟩ : ∃ it : Nat, a3 % (len1 : Int) = it ∧ it < len1 := ⟨(a3 % (len1 : Int)).toNat, by have := Int.emod_nonneg a3 (show (len1 : Int) ≠ 0 by omega); omega, by have := Int.emod_nonneg a3 (show (len1 : Int) ≠ 0 by omega); have := Int.emod_lt_of_pos a3 (show (0 : Int) < len1 by omega); omega⟩
      obtain ⟨hb30, hb31⟩ : 0 ≤ a3 ∧ a3 ≤ 255 := by
        have h := WF3.out
        simp only [Lit.wf, Bool.and_eq_true, decide_eq_true_eq] at h
        exact h
      have t0 : (0 : Int) ≤ (it : Int) := Int.natCast_nonneg _
      have t1 : (it : Int) ≤ (len1 : Int) := by omega
      have t3 : (it : Int) ≤ (cap1 : Int) := by omega
      have t4 : (it : Int) < (len1 : Int) := by omega
      have ed : ∃ fb, fb = decide (0 ≤ np) := ⟨_, rfl⟩
      obtain ⟨fb, hfb⟩ := ed
      rw [← hfb]
      have hd := hfb.symm
      clear hfb
      cases fb
      all_goals
        have LEN1 : RowKit.Hid ((xs1.drop kt).length = len1 - kt) := Lib.hid (by rw [List.length_drop, HX.out.1])
        have LEN2 : RowKit.Hid (([] : List Off).length + (len1 - kt) ≤ 1000000) := Lib.hid (by simp; omega)
        have LEN3 : RowKit.Hid ((xs1.take kt).length = kt) := Lib.hid (by rw [List.length_take, HX.out.1]; omega)
        have LEN4 : RowKit.Hid (([] ++ xs1.drop kt).length + kt ≤ 1000000) := Lib.hid (by have := HX.out.1; simp; omega)
        have LEN5 : RowKit.Hid (([] ++ xs1.drop kt ++ xs1.take kt).length = len1) := Lib.hid (by have := HX.out.1; simp; omega)
        go_upto_region 23 with fail
        rw [hkt]
        go_cut [17] from 20 (fun v wx => Row v len1 (xs1.drop kt ++ xs1.take kt) wr wx)
        case first =>
          go_region_held3 (fun W => Below wr.heap.size wr W) (repeat (first | (with_reducible exact Below.refl _ _) | (with_reducible assumption) | (with_reducible refine Below.drew ?_) | (with_reducible refine Below.alloc ?_ ?_ _; rotate_left; (first | omega | (simp; omega) | simp))))
            ((first
              | (first | (refine step_app (by rfl) _ _ (by rfl) wr.heap.size [] (xs1.drop kt) (.slice (some ⟨wr.heap.size, 0, none⟩) 0 0) (by rfl) (by exact ⟨rfl, .inr ⟨wr.heap.size, 0, #[], rfl, Nat.le_refl _, heap_alloc_new wr _, Nat.le_refl _, Nat.zero_le _, rfl, rfl⟩⟩) b (off + kt * 4) (len1 - kt) (cap1 - kt) (by rfl) LEN1.out ((OffsAt.below HAT.out (by repeat (first | (with_reducible exact Below.refl _ _) | (with_reducible assumption) | (with_reducible refine Below.drew ?_) | (with_reducible refine Below.alloc ?_ ?_ _; rotate_left; (first | exact Nat.le_refl _ | omega | (simp; omega))))) hlb).drop kt) LEN2.out (by simp) ?_; intro v1 wA hM1 hbA; have KA : Below wr.heap.size wr wA := Below.trans (by repeat (first | (with_reducible exact Below.refl _ _) | (with_reducible assumption) | (with_reducible refine Below.drew ?_) | (with_reducible refine Below.alloc ?_ ?_ _; rotate_left; (first | exact Nat.le_refl _ | omega | (simp; omega))))) hbA) | (refine step_app (by rfl) _ _ (by rfl) wr.heap.size ([] ++ xs1.drop kt) (xs1.take kt) v1 (by rfl) hM1 b (off) (kt) (cap1) (by rfl) LEN3.out ((OffsAt.below HAT.out (by repeat (first | (with_reducible exact Below.refl _ _) | (with_reducible assumption) | (with_reducible refine Below.drew ?_) | (with_reducible refine Below.alloc ?_ ?_ _; rotate_left; (first | exact Nat.le_refl _ | omega | (simp; omega))))) hlb).take kt) LEN4.out (by exact KA.size) ?_; intro v2 wB hM2 hbB; have KB : Below wr.heap.size wr wB := Below.trans KA hbB))))
          all_goals
            go_wp2_with fail
            go_meet
            obtain ⟨A', cp', rfl, hO⟩ := hM2.offs
            rw [LEN5.out, List.nil_append] at hO
            exact ⟨A', cp', by rw [LEN5.out], hO, by first | exact KB | exact KB.drew⟩

        case rest =>
          obtain ⟨A3, cp3, rfl, hO3, hb3⟩ := hcut
          have HO3 := Lib.hid hO3
          clear hO3 LEN1 LEN2 LEN3 LEN4 LEN5
          have hI3 := I1.out.below hb3
          have HAT3 := Lib.hid (OffsAt.below HAT.out hb3 hlb)
          have hlb3 : b < wc.heap.size := Nat.lt_of_lt_of_le hlb hb3.size
          clear d0 d1 d2 d3 d4 f0 f1 f2 f3 f4 lt0 lt1 hI0 hb3 I1
          obtain ⟨d0, d1, d2, d3, d4, _⟩ := hI3.k0.route
          obtain ⟨f0, f1, f2, f3, f4, _⟩ := hI3.k1.route
          simp only at d0 d1 d2 d3 d4 f0 f1 f2 f3 f4
          have lt0 := hI3.k0.lt
          have lt1 := hI3.k1.lt

          have I3 := Lib.hid hI3
          clear hI3
          have LEN1 : RowKit.Hid ((xs1.take it).length = it) := Lib.hid (by rw [List.length_take, HX.out.1]; omega)
          have LEN2 : RowKit.Hid (([] : List Off).length + it ≤ 1000000) := Lib.hid (by simp; omega)
          have LEN3 : RowKit.Hid ((xs1.drop (it + 1)).length = len1 - (it + 1)) := Lib.hid (by rw [List.length_drop, HX.out.1])
          have LEN4 : RowKit.Hid (([] ++ xs1.take it).length + (len1 - (it + 1)) ≤ 1000000) := Lib.hid (by have := HX.out.1; simp; omega)
          have LEN5 : RowKit.Hid (([] ++ xs1.take it ++ xs1.drop (it + 1)).length = len1 - 1) := Lib.hid (by have := HX.out.1; simp; omega)
          go_upto_region 25 with fail
          rw [hit]
          go_cut [19] from 20 (fun v wx => Row v (len1 - 1) (xs1.take it ++ xs1.drop (it + 1)) wc wx)
          case first =>
            have e1 : IntKind.i64.wrap ((it : Int) + 1) = (it : Int) + 1 := IntWalk.i64_in _ (by omega)
            have e2 : (0 : Int) ≤ (it : Int) + 1 := by omega
            have e3 : ((it : Int) + 1).toNat = it + 1 := by omega
            have e4 : (it : Int) + 1 ≤ (cap1 : Int) := by omega
            have e5 : (it : Int) + 1 ≤ (len1 : Int) := by omega
            by_cases hce : cap1 = it + 1
            · have HCE := Lib.hid hce
              have hce' : (cap1 = it + 1) = True := eq_true hce
              clear hce
              go_region_held3 (fun W => Below wc.heap.size wc W) (repeat (first | (with_reducible exact Below.refl _ _) | (with_reducible assumption) | (with_reducible refine Below.drew ?_) | (with_reducible refine Below.alloc ?_ ?_ _; rotate_left; (first | omega | (simp; omega) | simp))))
                ((first
                  | (first | (refine step_app (by rfl) _ _ (by rfl) wc.heap.size [] (xs1.take it) (.slice (some ⟨wc.heap.size, 0, none⟩) 0 0) (by rfl) (by exact ⟨rfl, .inr ⟨wc.heap.size, 0, #[], rfl, Nat.le_refl _, heap_alloc_new wc _, Nat.le_refl _, Nat.zero_le _, rfl, rfl⟩⟩) b (off) (it) (cap1) (by rfl) LEN1.out ((OffsAt.below HAT3.out (by repeat (first | (with_reducible exact Below.refl _ _) | (with_reducible assumption) | (with_reducible refine Below.drew ?_) | (with_reducible refine Below.alloc ?_ ?_ _; rotate_left; (first | exact Nat.le_refl _ | omega | (simp; omega))))) hlb3).take it) LEN2.out (by simp) ?_; intro v1 wA hM1 hbA; have KA : Below wc.heap.size wc wA := Below.trans (by repeat (first | (with_reducible exact Below.refl _ _) | (with_reducible assumption) | (with_reducible refine Below.drew ?_) | (with_reducible refine Below.alloc ?_ ?_ _; rotate_left; (first | exact Nat.le_refl _ | omega | (simp; omega))))) hbA) | (refine step_app (by rfl) _ _ (by rfl) wc.heap.size ([] ++ xs1.take it) (xs1.drop (it + 1)) v1 (by rfl) hM1 b (off) (len1 - (it + 1)) (cap1 - (it + 1)) (by rfl) LEN3.out (by intro j o ho; exfalso; have h1 := (List.getElem?_eq_some_iff.1 ho).1; have h2 := HX.out.1; have h3 := HCE.out; simp at h1; omega) LEN4.out (by exact KA.size) ?_; intro v2 wB hM2 hbB; have KB : Below wc.heap.size wc wB := Below.trans KA hbB))))
              all_goals
                go_wp2_with fail
                go_meet
                obtain ⟨A', cp', rfl, hO⟩ := hM2.offs
                rw [LEN5.out, List.nil_append] at hO
                exact ⟨A', cp', by rw [LEN5.out], hO, by first | exact KB | exact KB.drew⟩
            · go_region_held3 (fun W => Below wc.heap.size wc W) (repeat (first | (with_reducible exact Below.refl _ _) | (with_reducible assumption) | (with_reducible refine Below.drew ?_) | (with_reducible refine Below.alloc ?_ ?_ _; rotate_left; (first | omega | (simp; omega) | simp))))
                ((first
                  | (first | (refine step_app (by rfl) _ _ (by rfl) wc.heap.size [] (xs1.take it) (.slice (some ⟨wc.heap.size, 0, none⟩) 0 0) (by rfl) (by exact ⟨rfl, .inr ⟨wc.heap.size, 0, #[], rfl, Nat.le_refl _, heap_alloc_new wc _, Nat.le_refl _, Nat.zero_le _, rfl, rfl⟩⟩) b (off) (it) (cap1) (by rfl) LEN1.out ((OffsAt.below HAT3.out (by repeat (first | (with_reducible exact Below.refl _ _) | (with_reducible assumption) | (with_reducible refine Below.drew ?_) | (with_reducible refine Below.alloc ?_ ?_ _; rotate_left; (first | exact Nat.le_refl _ | omega | (simp; omega))))) hlb3).take it) LEN2.out (by simp) ?_; intro v1 wA hM1 hbA; have KA : Below wc.heap.size wc wA := Below.trans (by repeat (first | (with_reducible exact Below.refl _ _) | (with_reducible assumption) | (with_reducible refine Below.drew ?_) | (with_reducible refine Below.alloc ?_ ?_ _; rotate_left; (first | exact Nat.le_refl _ | omega | (simp; omega))))) hbA) | (refine step_app (by rfl) _ _ (by rfl) wc.heap.size ([] ++ xs1.take it) (xs1.drop (it + 1)) v1 (by rfl) hM1 b (off + (it + 1) * 4) (len1 - (it + 1)) (cap1 - (it + 1)) (by rfl) LEN3.out ((OffsAt.below HAT3.out (by repeat (first | (with_reducible exact Below.refl _ _) | (with_reducible assumption) | (with_reducible refine Below.drew ?_) | (with_reducible refine Below.alloc ?_ ?_ _; rotate_left; (first | exact Nat.le_refl _ | omega | (simp; omega))))) hlb3).drop (it + 1)) LEN4.out (by exact KA.size) ?_; intro v2 wB hM2 hbB; have KB : Below wc.heap.size wc wB := Below.trans KA hbB))))
              all_goals
                go_wp2_with fail
                go_meet
                obtain ⟨A', cp', rfl, hO⟩ := hM2.offs
                rw [LEN5.out, List.nil_append] at hO
                exact ⟨A', cp', by rw [LEN5.out], hO, by first | exact KB | exact KB.drew⟩
          case rest =>
            obtain ⟨A4, cp4, rfl, hO4, hb4⟩ := hcut
            have hI4 := I3.out.below hb4
            have HT := Lib.hid (HO3.out.below hb4)
            have HF := Lib.hid hO4
            have hox := List.getElem?_eq_getElem (l := xs1) (i := it) (by rw [HX.out.1]; exact hil)
            obtain ⟨po, hpo⟩ : ∃ o, o = xs1[it]'(by rw [HX.out.1]; exact hil) := ⟨_, rfl⟩
            rw [← hpo] at hox
            clear hpo
            obtain ⟨pc, _, _, _⟩ := (OffsAt.below HAT3.out hb4 hlb3) it po hox
            have hlb4 : b < wc.heap.size := Nat.lt_of_lt_of_le hlb3 hb4.size
            have p0 : ∀ u, (ext wc u).cell? ⟨b, off + it * 4, none⟩ = some (.int .i64 po.peer) := fun u => (ext_cell wc u hlb4).trans pc
            have q00 : ∀ u, (ext wc u).cell? ⟨w.heap.size, 0, none⟩ = some (.int .i64 ro) := fun u => (ext_cell wc u hI4.k0.lt).trans (hI4.k0.cell 0)
            have q01 : ∀ u, (ext wc u).cell? ⟨w.heap.size, 1, none⟩ = some (.int .i64 rr) := fun u => (ext_cell wc u hI4.k0.lt).trans (hI4.k0.cell 1)
            have q02 : ∀ u, (ext wc u).cell? ⟨w.heap.size, 2, none⟩ = some (.int .i64 rl) := fun u => (ext_cell wc u hI4.k0.lt).trans (hI4.k0.cell 2)
            have q03 : ∀ u, (ext wc u).cell? ⟨w.heap.size, 3, none⟩ = some (.int .i64 rk) := fun u => (ext_cell wc u hI4.k0.lt).trans (hI4.k0.cell 3)
            have q04 : ∀ u, (ext wc u).cell? ⟨w.heap.size, 4, none⟩ = some (.int .i64 rp) := fun u => (ext_cell wc u hI4.k0.lt).trans (hI4.k0.cell 4)
            have q10 : ∀ u, (ext wc u).cell? ⟨w5.heap.size, 0, none⟩ = some (.int .i64 no) := fun u => (ext_cell wc u hI4.k1.lt).trans (hI4.k1.cell 0)
            have q11 : ∀ u, (ext wc u).cell? ⟨w5.heap.size, 1, none⟩ = some (.int .i64 nr) := fun u => (ext_cell wc u hI4.k1.lt).trans (hI4.k1.cell 1)
            have q12 : ∀ u, (ext wc u).cell? ⟨w5.heap.size, 2, none⟩ = some (.int .i64 nl) := fun u => (ext_cell wc u hI4.k1.lt).trans (hI4.k1.cell 2)
            have q13 : ∀ u, (ext wc u).cell? ⟨w5.heap.size, 3, none⟩ = some (.int .i64 nk) := fun u => (ext_cell wc u hI4.k1.lt).trans (hI4.k1.cell 3)
            have q14 : ∀ u, (ext wc u).cell? ⟨w5.heap.size, 4, none⟩ = some (.int .i64 np) := fun u => (ext_cell wc u hI4.k1.lt).trans (hI4.k1.cell 4)
            have NT : RowKit.Hid ((⟨no, nr, nl, nk, np⟩ : Rte) = chooseF ⟨ro, rr, rl, rk, rp⟩ (xs1.drop kt ++ xs1.take kt)) := Lib.hid (KT.out kt).symm
            have HB4 := Lib.hid hI4.acc
            have L1 : RowKit.Hid (len1 - 1 ≤ 1000000) := Lib.hid (by omega)
            clear d0 d1 d2 d3 d4 f0 f1 f2 f3 f4 lt0 lt1 hO4 hb4 hlb3 pc I3 hI4 LEN1 LEN2 LEN3 LEN4 LEN5
            by_cases hpn : po.peer = np
            · have HOX := Lib.hid hox
              have hpn' : (po.peer == np) = true := by simpa using hpn
              clear hox
              go_upto_region 26 with fail
              refine wp_region_ext (by kernel_rfl) (by kernel_rfl) ?_
              repeat (go_big_quiet_step ((go_at_call 18; with_reducible exact calls_ext (choose_v ro rr rl rk rp ⟨no, nr, nl, nk, np⟩ (xs1.drop kt ++ xs1.take kt) A3 len1 cp3 _ (HT.out.below (ext_below _ _)) HLn.out NT.out))))
              refine wpQuiet_nil ?_
              rintro _ ⟨u, rfl⟩
              go_wp2
              go_ret
              exact ⟨rfl, below_next (ext_below _ _) HB4.out HB4.out.size⟩
            · have NL : RowKit.Hid ((⟨no, nr, nl, nk, np⟩ : Rte) = chooseF ⟨ro, rr, rl, rk, rp⟩ (xs1.take it ++ xs1.drop (it + 1))) := Lib.hid (KL.out it po hox hpn).symm
              have hpn' : (po.peer == np) = false := by simpa using hpn
              clear hox hpn
              go_upto_region 26 with fail
              refine wp_region_ext (by kernel_rfl) (by kernel_rfl) ?_
              repeat (go_big_quiet_step ((go_at_call 18; with_reducible first | exact calls_ext (choose_v ro rr rl rk rp ⟨no, nr, nl, nk, np⟩ (xs1.drop kt ++ xs1.take kt) A3 len1 cp3 _ (HT.out.below (ext_below _ _)) HLn.out NT.out) | exact calls_ext (choose_v ro rr rl rk rp ⟨no, nr, nl, nk, np⟩ (xs1.take it ++ xs1.drop (it + 1)) A4 (len1 - 1) cp4 _ (HF.out.below (ext_below _ _)) L1.out NL.out))))
              refine wpQuiet_nil ?_
              rintro _ ⟨u, rfl⟩
              go_wp2
              go_ret
              exact ⟨rfl, below_next (ext_below _ _) HB4.out HB4.out.size⟩

set_option maxRecDepth 100000 in
theorem lifted (os : Os) (started : os.Started) (H : Type) (enc : TypeId × Value → H) :
    ReturnsInHanded {} Try.checked os 8 .any (Rows.rankChoiceSpec.pre6 enc Try.prog Try.f8 Rows.rankChoiceRow.domain false) (Rows.rankChoiceSpec.post enc Try.prog Try.f8 false true false false) := by
  refine returnsInHanded_of_change (C := Try.checked) own started (by kernel_rfl) Try.func8
    (ChangeSpec.witness6 (enc := enc) (C := Try.checked) false ⟨#[], #[.agg #[.int .i64 0, .int .i64 0, .int .i64 0, .int .i64 0, .int .i64 0], .slice none 0 0, .int .u8 0, .int .u8 0], []⟩ 8 (by kernel_rfl) (by kernel_rfl) (by kernel_rfl) (by kernel_rfl)) ?_
  intro W base args ds gs before hval0 hW hcnd _
  have hval : ∀ (j : Nat) t v, Try.f8.params[j]? = some t → args[j]? = some v → Value.okWide Try.prog W .any base t v := hval0
  have hW' := hW
  obtain ⟨p, q, hA0, hV, rfl, hfz, hnd⟩ := hW
  have hA : DataW.TrodAll enc Try.prog W 0 (fun _ => true) true Try.f8.params.toList args.toList ds p := hA0
  rw [Try.params8] at hA hval
  obtain ⟨v0, vs0, d0, ds0, p0, q0, hargs, rfl, rfl, h0, z0⟩ := trodAll_cons hA
  obtain ⟨v1, vs1, d1, ds1, p1, q1, rfl, rfl, rfl, h1, z1⟩ := trodAll_cons z0
  obtain ⟨v2, vs2, d2, ds2, p2, q2, rfl, rfl, rfl, h2, z2⟩ := trodAll_cons z1
  obtain ⟨v3, vs3, d3, ds3, p3, q3, rfl, rfl, rfl, h3, z3⟩ := trodAll_cons z2
  obtain ⟨rfl, rfl, rfl⟩ := trodAll_nil z3
  obtain rfl : args = #[v0, v1, v2, v3] := by cases args; simp_all
  obtain ⟨rfl, rfl⟩ := trodVars_none hV
  have k0 := h0
  have lt0 : ∀ x ∈ p0, x.block < W.heap.size := by obtain ⟨m, hm⟩ := k0; exact DataW.trod_lt m _ _ _ hm
  obtain ⟨r0, rfl⟩ := open_rte (hval 0 43 v0 rfl rfl) h0
  have k1 := h1
  have lt1 : ∀ x ∈ p1, x.block < W.heap.size := by obtain ⟨m, hm⟩ := k1; exact DataW.trod_lt m _ _ _ hm
  obtain ⟨A1, len1, cap1, xs1, rfl, hl1, hm1, hx1⟩ := open_offs (hval 1 37 v1 rfl rfl) h1
  have k2 := h2
  have lt2 : ∀ x ∈ p2, x.block < W.heap.size := by obtain ⟨m, hm⟩ := k2; exact DataW.trod_lt m _ _ _ hm
  obtain ⟨a2, rfl, rfl, rfl, w2⟩ := open_int Try.underlying5 (hval 2 5 v2 rfl rfl) h2
  have k3 := h3
  have lt3 : ∀ x ∈ p3, x.block < W.heap.size := by obtain ⟨m, hm⟩ := k3; exact DataW.trod_lt m _ _ _ hm
  obtain ⟨a3, rfl, rfl, rfl, w3⟩ := open_int Try.underlying5 (hval 3 5 v3 rfl rfl) h3
  clear hA0 hval0
  refine (walk r0 A1 len1 cap1 xs1 a2 a3 W hx1 hl1 hm1 w2 w3).mono fun e W' ⟨he, hg⟩ => ?_
  subst he
  exact ⟨_, rfl, _, _, _, [], _, [], hW', trodAll_mk1 (shut_bool Try.underlying4 _), (trodAll_cons_mk (Below.trod laidOut (by kernel_rfl) (of_decide_eq_true (by kernel_rfl)) k0 hg lt0) (trodAll_cons_mk (Below.trod laidOut (by kernel_rfl) (of_decide_eq_true (by kernel_rfl)) k1 hg lt1) (trodAll_cons_mk (Below.trod laidOut (by kernel_rfl) (of_decide_eq_true (by kernel_rfl)) k2 hg lt2) (trodAll_cons_mk (Below.trod laidOut (by kernel_rfl) (of_decide_eq_true (by kernel_rfl)) k3 hg lt3) trodAll_mk0)))), rfl, hg.frame _, fun h => by cases h⟩

theorem over : Rows.rankChoiceRow.holds Try.pinned (OpenSpec.ofChange Rows.rankChoiceSpec) :=
  OpenClaim.holds_of_wide 8 Try.f8 rfl rfl rfl rfl rfl rfl rfl ⟨rfl, rfl, rfl, rfl, rfl⟩ rfl rfl rfl rfl rfl (by kernel_rfl) Try.func8 (by kernel_rfl)
    (of_decide_eq_true (by kernel_rfl)) (by unfold Func.isWrapper; rw [if_neg (of_decide_eq_false (by kernel_rfl))]; exact ⟨rfl, rfl⟩)
    (fun os started H enc _ => lifted os started H enc)

theorem proved : Rows.RankChoiceSaid := over
#print axioms proved
end Go.Proofs.Ytefnjhdmpnfacaa.rankChoice
