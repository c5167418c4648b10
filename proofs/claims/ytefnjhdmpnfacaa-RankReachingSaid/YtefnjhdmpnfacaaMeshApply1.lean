/- The mesh's apply where a node hears, or nothing happens. -/
import Derived.Test.YtefnjhdmpnfacaaMeshHear
import Derived.Test.YtefnjhdmpnfacaaLaws
import Derived.StillTailTactics
import Derived.IntWalk
namespace Go.Proofs.Ytefnjhdmpnfacaa
open Go.RowKit
set_option linter.unusedVariables false

set_option maxHeartbeats 4000000 in
set_option maxRecDepth 100000 in
theorem apply0z_is {w : World} {B mb R T H cR cT cH n : Nat} {G : Nat → Prop} {m : St} (hX : MeshX w B mb R T H cR cT cH n G m) (hB : B ≤ w.heap.size) (hn : 2 ≤ n) (hn8 : n ≤ 8) (i k : Nat) (hi : i < n) (h0 : i = 0)
    (wh nd sc lt co : Int) (b0 : 0 ≤ nd) (b1 : nd ≤ 255) (b2 : 0 ≤ sc) (b3 : sc ≤ 255) (b4 : 0 ≤ wh) (b5 : wh ≤ 255) (b6 : 0 ≤ lt) (b7 : lt ≤ 255) (b8 : 0 ≤ co) (b9 : co ≤ 65535) (hnd : nd % (n : Int) = (i : Nat)) (hsc : sc % (n : Int) = (k : Nat)) (hwh : wh % 4 = 0) :
    Calls Try.prog 13 #[.pointer (some ⟨mb, 0, none⟩), .agg #[.int .u8 wh, .int .u8 nd, .int .u8 sc, .int .u8 lt, .int .u16 co]] w fun e w' =>
      e = .returned (.tuple #[]) ∧ MeshX w' B mb R T H cR cT cH n G (m) ∧ Keeps B G w w' := by
  have HX := Lib.hid hX
  have HB := Lib.hid hB
  obtain ⟨tv, hv, lab, hM⟩ := hX
  obtain ⟨q0, q1, q2, q3⟩ := hM.lt (by omega)
  have c0 := hM.s0.cell
  have hnp : (0 : Int) < (n : Int) := by omega
  have hnz : ¬ (n : Int) = 0 := by omega
  clear hM hB
  go_enter Try.func13, Try.ntmps13
  go_wp2_with fail
  go_cut [5, 6] from 13 (fun v5 v6 wx => v5 = .int .i64 (i : Nat) ∧ v6 = .int .i64 (k : Nat) ∧ Far (fun _ => False) w wx ∧ Whole wx w.heap.size 29 #[.int .u8 wh, .int .u8 nd, .int .u8 sc, .int .u8 lt, .int .u16 co])
  case first =>
    go_quiet (fail)
    go_wp2_with fail
    go_meet
    exact ⟨by first | rfl | rw [hnd], by first | rfl | rw [hsc], ((Far.refl _ _).alloc _).drewN _, Whole.new w 29 _⟩
  case rest =>
    obtain ⟨rfl, rfl, hF, hW⟩ := hcut
    obtain ⟨w1, hw1⟩ : ∃ w1, w1 = wc := ⟨_, rfl⟩
    subst hw1
    have MX : MeshX w1 B mb R T H cR cT cH n G m := HX.out.keep hF
    have BX : Keeps B G w w1 := hF.to_keeps HB.out (fun _ e => e.elim)
    have x0 := hW.cell 0
    have x1 := hW.cell 1
    have x2 := hW.cell 2
    have x3 := hW.cell 3
    have x4 := hW.cell 4
    simp only [List.getElem?_toArray, List.getElem?_cons_zero, List.getElem?_cons_succ] at x0 x1 x2 x3 x4
    have lbx := hW.lt
    clear hF c0 q0 q1 q2 q3
    have hgi : ¬ (0 : Int) < ((i : Nat) : Int) := by omega
    have HMX := Lib.hid MX
    have HBX := Lib.hid BX
    clear MX BX
    go_wp2_with fail
    refine bodyPost_end (results_none (by rfl) _ _ _) rfl ⟨rfl, HMX.out, HBX.out⟩


set_option maxHeartbeats 4000000 in
set_option maxRecDepth 100000 in
theorem apply1e_is {w : World} {B mb R T H cR cT cH n : Nat} {G : Nat → Prop} {m : St} (hX : MeshX w B mb R T H cR cT cH n G m) (hB : B ≤ w.heap.size) (hn : 2 ≤ n) (hn8 : n ≤ 8) (i k : Nat) (hi : i < n) (hik : i = k)
    (wh nd sc lt co : Int) (b0 : 0 ≤ nd) (b1 : nd ≤ 255) (b2 : 0 ≤ sc) (b3 : sc ≤ 255) (b4 : 0 ≤ wh) (b5 : wh ≤ 255) (b6 : 0 ≤ lt) (b7 : lt ≤ 255) (b8 : 0 ≤ co) (b9 : co ≤ 65535) (hnd : nd % (n : Int) = (i : Nat)) (hsc : sc % (n : Int) = (k : Nat)) (hwh : wh % 4 = 1) :
    Calls Try.prog 13 #[.pointer (some ⟨mb, 0, none⟩), .agg #[.int .u8 wh, .int .u8 nd, .int .u8 sc, .int .u8 lt, .int .u16 co]] w fun e w' =>
      e = .returned (.tuple #[]) ∧ MeshX w' B mb R T H cR cT cH n G (m) ∧ Keeps B G w w' := by
  have HX := Lib.hid hX
  have HB := Lib.hid hB
  obtain ⟨tv, hv, lab, hM⟩ := hX
  obtain ⟨q0, q1, q2, q3⟩ := hM.lt (by omega)
  have c0 := hM.s0.cell
  have hnp : (0 : Int) < (n : Int) := by omega
  have hnz : ¬ (n : Int) = 0 := by omega
  clear hM hB
  go_enter Try.func13, Try.ntmps13
  go_wp2_with fail
  go_cut [5, 6] from 13 (fun v5 v6 wx => v5 = .int .i64 (i : Nat) ∧ v6 = .int .i64 (k : Nat) ∧ Far (fun _ => False) w wx ∧ Whole wx w.heap.size 29 #[.int .u8 wh, .int .u8 nd, .int .u8 sc, .int .u8 lt, .int .u16 co])
  case first =>
    go_quiet (fail)
    go_wp2_with fail
    go_meet
    exact ⟨by first | rfl | rw [hnd], by first | rfl | rw [hsc], ((Far.refl _ _).alloc _).drewN _, Whole.new w 29 _⟩
  case rest =>
    obtain ⟨rfl, rfl, hF, hW⟩ := hcut
    obtain ⟨w1, hw1⟩ : ∃ w1, w1 = wc := ⟨_, rfl⟩
    subst hw1
    have MX : MeshX w1 B mb R T H cR cT cH n G m := HX.out.keep hF
    have BX : Keeps B G w w1 := hF.to_keeps HB.out (fun _ e => e.elim)
    have x0 := hW.cell 0
    have x1 := hW.cell 1
    have x2 := hW.cell 2
    have x3 := hW.cell 3
    have x4 := hW.cell 4
    simp only [List.getElem?_toArray, List.getElem?_cons_zero, List.getElem?_cons_succ] at x0 x1 x2 x3 x4
    have lbx := hW.lt
    clear hF c0 q0 q1 q2 q3
    have hik' : (((i : Nat) : Int) != ((k : Nat) : Int)) = false := by simp [hik]
    have HMX := Lib.hid MX
    have HBX := Lib.hid BX
    clear MX BX
    go_wp2_with fail
    refine bodyPost_end (results_none (by rfl) _ _ _) rfl ⟨rfl, HMX.out, HBX.out⟩


set_option maxHeartbeats 4000000 in
set_option maxRecDepth 100000 in
theorem apply1_is {w : World} {B mb R T H cR cT cH n : Nat} {G : Nat → Prop} {m : St} (hX : MeshX w B mb R T H cR cT cH n G m) (hB : B ≤ w.heap.size) (hn : 2 ≤ n) (hn8 : n ≤ 8) (i k : Nat) (hi : i < n) (hk : k < n) (hik : i ≠ k) (hL : (m.heard i).length ≤ 1000) (hT : 0 < (m.told k).length ∧ (m.told k).length ≤ 1000)
    (wh nd sc lt co : Int) (b0 : 0 ≤ nd) (b1 : nd ≤ 255) (b2 : 0 ≤ sc) (b3 : sc ≤ 255) (b4 : 0 ≤ wh) (b5 : wh ≤ 255) (b6 : 0 ≤ lt) (b7 : lt ≤ 255) (b8 : 0 ≤ co) (b9 : co ≤ 65535) (hnd : nd % (n : Int) = (i : Nat)) (hsc : sc % (n : Int) = (k : Nat)) (hwh : wh % 4 = 1) :
    Calls Try.prog 13 #[.pointer (some ⟨mb, 0, none⟩), .agg #[.int .u8 wh, .int .u8 nd, .int .u8 sc, .int .u8 lt, .int .u16 co]] w fun e w' =>
      e = .returned (.tuple #[]) ∧ MeshX w' B mb R T H cR cT cH n G (m.hear i ⟨(k : Nat), ((m.told k).getD (lateK (m.told k).length lt) default).s, ((m.told k).getD (lateK (m.told k).length lt) default).r, 1 + co % 4096⟩) ∧ Keeps B G w w' := by
  have HX := Lib.hid hX
  have HB := Lib.hid hB
  obtain ⟨tv, hv, lab, hM⟩ := hX
  obtain ⟨q0, q1, q2, q3⟩ := hM.lt (by omega)
  have c0 := hM.s0.cell
  have hnp : (0 : Int) < (n : Int) := by omega
  have hnz : ¬ (n : Int) = 0 := by omega
  clear hM hB
  go_enter Try.func13, Try.ntmps13
  go_wp2_with fail
  go_cut [5, 6] from 13 (fun v5 v6 wx => v5 = .int .i64 (i : Nat) ∧ v6 = .int .i64 (k : Nat) ∧ Far (fun _ => False) w wx ∧ Whole wx w.heap.size 29 #[.int .u8 wh, .int .u8 nd, .int .u8 sc, .int .u8 lt, .int .u16 co])
  case first =>
    go_quiet (fail)
    go_wp2_with fail
    go_meet
    exact ⟨by first | rfl | rw [hnd], by first | rfl | rw [hsc], ((Far.refl _ _).alloc _).drewN _, Whole.new w 29 _⟩
  case rest =>
    obtain ⟨rfl, rfl, hF, hW⟩ := hcut
    obtain ⟨w1, hw1⟩ : ∃ w1, w1 = wc := ⟨_, rfl⟩
    subst hw1
    have MX : MeshX w1 B mb R T H cR cT cH n G m := HX.out.keep hF
    have BX : Keeps B G w w1 := hF.to_keeps HB.out (fun _ e => e.elim)
    have x0 := hW.cell 0
    have x1 := hW.cell 1
    have x2 := hW.cell 2
    have x3 := hW.cell 3
    have x4 := hW.cell 4
    simp only [List.getElem?_toArray, List.getElem?_cons_zero, List.getElem?_cons_succ] at x0 x1 x2 x3 x4
    have lbx := hW.lt
    clear hF c0 q0 q1 q2 q3
    have hik' : (((i : Nat) : Int) != ((k : Nat) : Int)) = true := by simp; omega
    have HMX := Lib.hid MX
    have HBX := Lib.hid BX
    have hB2 : B ≤ w1.heap.size := Nat.le_trans HB.out BX.size
    obtain ⟨tv, hv, lab, hM⟩ := MX
    obtain ⟨q0, q1, q2, q3⟩ := hM.lt (by omega)
    obtain ⟨g, cap, htv, hgc, hgm, hgB, hgl, hgla, hgx⟩ := hM.told_form (i := k) hk hT.1
    obtain ⟨L, hLe⟩ : ∃ L, L = (m.told k).length := ⟨_, rfl⟩
    rw [← hLe] at htv hT
    obtain ⟨j, hj⟩ : ∃ j, j = lateK L lt := ⟨_, rfl⟩
    have hjL : j < L := by rw [hj]; exact late_lt hT.1 lt
    obtain ⟨d, hd⟩ : ∃ d, d = (m.told k).getD j default := ⟨_, rfl⟩
    have hdj : (m.told k)[j]? = some d := by
      rw [hd, List.getD_eq_getElem?_getD, List.getElem?_eq_getElem (by omega)]
      rfl
    obtain ⟨⟨g0, _⟩, ⟨g1, _⟩⟩ := hgx j d hdj
    obtain ⟨d1, _⟩ := hM.s1
    obtain ⟨dt, df⟩ := hM.th k hk
    rw [htv] at dt
    have i0 : (0 : Int) ≤ ((i : Nat) : Int) := Int.natCast_nonneg _
    have i1 : ((i : Nat) : Int) < (n : Int) := by omega
    have k0 : (0 : Int) ≤ ((k : Nat) : Int) := Int.natCast_nonneg _
    have k1 : ((k : Nat) : Int) < (n : Int) := by omega
    have j0 : (0 : Int) ≤ ((j : Nat) : Int) := Int.natCast_nonneg _
    have j1 : ((j : Nat) : Int) < (L : Int) := by omega
    have hmx : max (0 : Int) ((L : Int) - 1 - lt % 8) = (j : Nat) := by rw [hj]; unfold lateK; omega
    have HJ := Lib.hid hj
    have HD := Lib.hid hd
    have HLE := Lib.hid hLe
    have HB2 := Lib.hid hB2
    clear hM htv hLe hj hd hdj hgx hgc hgm hgB hgla df hB2 BX
    go_upto_region 13 with fail
    have v1 : IntKind.i64.wrap ((L : Int) - 1) = (L : Int) - 1 := IntWalk.i64_in _ (by omega)
    have v2 : IntKind.i64.wrap lt = lt := IntWalk.i64_in _ (by omega)
    have v3 : lt.tmod 8 = lt % 8 := Int.tmod_eq_emod_of_nonneg b6
    have v4 : IntKind.i64.wrap ((L : Int) - 1 - lt % 8) = (L : Int) - 1 - lt % 8 := IntWalk.i64_in _ (by omega)
    have v5 : (if lt % 8 < (L : Int) - 1 then (L : Int) - 1 - lt % 8 else 0) = ((j : Nat) : Int) := by
      rw [← hmx]
      split <;> omega
    have v6 : IntKind.i64.wrap co = co := IntWalk.i64_in _ (by omega)
    have v7 : co.tmod 4096 = co % 4096 := Int.tmod_eq_emod_of_nonneg b8
    have v8 : IntKind.i64.wrap (1 + co % 4096) = 1 + co % 4096 := IntWalk.i64_in _ (by omega)
    clear hmx
    go_still_tail 21, (by kernel_rfl)
    change wpList _ _ _ _ _ w1.drew
    obtain ⟨w2, hw2⟩ : ∃ w2, w2 = w1.drew := ⟨_, rfl⟩
    rw [← hw2]
    have HX2 : RowKit.Hid (MeshX w2 B mb R T H cR cT cH n G m) := Lib.hid (by rw [hw2]; exact HMX.out.keep (Far.refl _ _).drew)
    have HB3 : RowKit.Hid (B ≤ w2.heap.size) := Lib.hid (by rw [hw2]; exact HB2.out)
    have HB4 : RowKit.Hid (Keeps B G w w2) := Lib.hid (by rw [hw2]; exact HBX.out.drew)
    clear hw2 v1 v2 v3 v4 v5 v6 v7 v8
    go_wp2_with fail
    (with_reducible refine (hear_is HX2.out HB3.out i hi hn8 hL (k : Nat) d.s d.r (1 + co % 4096)).mono ?_)
    rintro e w3 ⟨rfl, hX3, hB5⟩
    have HX3 := Lib.hid hX3
    have HB6 := Lib.hid hB5
    clear hX3 hB5
    go_wp2_with fail
    refine bodyPost_end (results_none (by rfl) _ _ _) rfl ⟨rfl, ?_, HB4.out.trans HB6.out⟩
    rw [← HLE.out, ← HJ.out, ← HD.out]
    exact HX3.out


end Go.Proofs.Ytefnjhdmpnfacaa
