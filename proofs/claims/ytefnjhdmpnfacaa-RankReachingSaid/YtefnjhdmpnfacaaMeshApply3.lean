/- The mesh's apply where the root takes a new number. -/
import Derived.Test.YtefnjhdmpnfacaaMeshHear
import Derived.Test.YtefnjhdmpnfacaaLaws
import Derived.StillTailTactics
import Derived.IntWalk
namespace Go.Proofs.Ytefnjhdmpnfacaa
open Go.RowKit
set_option linter.unusedVariables false

set_option maxHeartbeats 4000000 in
set_option maxRecDepth 100000 in
theorem apply3_is {w : World} {B mb R T H cR cT cH n : Nat} {G : Nat → Prop} {m : St} (hX : MeshX w B mb R T H cR cT cH n G m) (hB : B ≤ w.heap.size) (hn : 2 ≤ n) (hn8 : n ≤ 8) (i k : Nat) (hT : 0 < (m.told 0).length ∧ (m.told 0).length ≤ 1000) (hS : 0 ≤ (m.rs 0).os ∧ (m.rs 0).os ≤ 1000000)
    (wh nd sc lt co : Int) (b0 : 0 ≤ nd) (b1 : nd ≤ 255) (b2 : 0 ≤ sc) (b3 : sc ≤ 255) (b4 : 0 ≤ wh) (b5 : wh ≤ 255) (b6 : 0 ≤ lt) (b7 : lt ≤ 255) (b8 : 0 ≤ co) (b9 : co ≤ 65535) (hnd : nd % (n : Int) = (i : Nat)) (hsc : sc % (n : Int) = (k : Nat)) (hwh : wh % 4 = 3) :
    Calls Try.prog 13 #[.pointer (some ⟨mb, 0, none⟩), .agg #[.int .u8 wh, .int .u8 nd, .int .u8 sc, .int .u8 lt, .int .u16 co]] w fun e w' =>
      e = .returned (.tuple #[]) ∧ MeshX w' B mb R T H cR cT cH n G (m.tell 0 (renewF (m.rs 0) ((m.rs 0).os + 1))) ∧ Keeps B G w w' := by
  have HX := Lib.hid hX
  have HB := Lib.hid hB
  obtain ⟨tv, hv, lab, hM⟩ := hX
  obtain ⟨q0, q1, q2, q3⟩ := hM.lt (by omega)
  have c0 := hM.s0.cell
  have hnp : (0 : Int) < (n : Int) := by omega
  have hnz : ¬ (n : Int) = 0 := by omega
  clear hM hB
  go_enter Try.func13, Try.ntmps13
  go_wp2_with fail
  go_cut [5, 6] from 13 (fun v5 v6 wx => v5 = .int .i64 (i : Nat) ∧ v6 = .int .i64 (k : Nat) ∧ Far (fun _ => False) w wx ∧ Whole wx w.heap.size 29 #[.int .u8 wh, .int .u8 nd, .int .u8 sc, .int .u8 lt, .int .u16 co])
  case first =>
    go_quiet (fail)
    go_wp2_with fail
    go_meet
    exact ⟨by first | rfl | rw [hnd], by first | rfl | rw [hsc], ((Far.refl _ _).alloc _).drewN _, Whole.new w 29 _⟩
  case rest =>
    obtain ⟨rfl, rfl, hF, hW⟩ := hcut
    obtain ⟨w1, hw1⟩ : ∃ w1, w1 = wc := ⟨_, rfl⟩
    subst hw1
    have MX : MeshX w1 B mb R T H cR cT cH n G m := HX.out.keep hF
    have BX : Keeps B G w w1 := hF.to_keeps HB.out (fun _ e => e.elim)
    have x0 := hW.cell 0
    have x1 := hW.cell 1
    have x2 := hW.cell 2
    have x3 := hW.cell 3
    have x4 := hW.cell 4
    simp only [List.getElem?_toArray, List.getElem?_cons_zero, List.getElem?_cons_succ] at x0 x1 x2 x3 x4
    have lbx := hW.lt
    clear hF c0 q0 q1 q2 q3
    have hi : 0 < n := by omega
    go_upto_region 4 with fail
    go_cut [] from 23 (fun wx => MeshX wx B mb R T H cR cT cH n G { m with rs := upd m.rs 0 (renewF (m.rs 0) ((m.rs 0).os + 1)) } ∧ Keeps B G w wx)
    case first =>
      obtain ⟨tv, hv, lab, hM⟩ := MX
      obtain ⟨q0, q1, q2, q3⟩ := hM.lt (by omega)
      obtain ⟨rt, hrt⟩ : ∃ rt, rt = m.rs 0 := ⟨_, rfl⟩
      obtain ⟨d0, _⟩ := hM.s0
      have dr := hM.rt 0 hi
      rw [← hrt] at dr
      obtain ⟨⟨r0, s0⟩, ⟨r1, s1⟩, ⟨r2, s2⟩, ⟨r3, s3⟩, ⟨r4, s4⟩⟩ := dr
      have i0 : (0 : Int) ≤ ((0 : Nat) : Int) := Int.natCast_nonneg _
      have i1 : ((0 : Nat) : Int) < (n : Int) := by omega
      simp only [Nat.zero_mul, Nat.zero_add] at r0 r1 r2 r3 r4
      have SOF : RowKit.Hid (∀ W, Far (fun _ => False) w1 W → (fun W => W.cell? ⟨mb, 0, none⟩ = some (.slice (some ⟨R, 0, none⟩) n cR) ∧ W.cell? ⟨R, 0, none⟩ = some (.int .i64 rt.os) ∧ W.cell? ⟨R, 1, none⟩ = some (.int .i64 rt.orr) ∧ W.cell? ⟨R, 2, none⟩ = some (.int .i64 rt.ls) ∧ W.cell? ⟨R, 3, none⟩ = some (.int .i64 rt.lr) ∧ W.cell? ⟨R, 4, none⟩ = some (.int .i64 rt.par)) W) :=
        Lib.hid (fun W h => ⟨(h.cell (p := ⟨mb, 0, none⟩) q0 id).trans d0, (h.cell (p := ⟨R, 0, none⟩) q1 id).trans r0, (h.cell (p := ⟨R, 1, none⟩) q1 id).trans r1, (h.cell (p := ⟨R, 2, none⟩) q1 id).trans r2, (h.cell (p := ⟨R, 3, none⟩) q1 id).trans r3, (h.cell (p := ⟨R, 4, none⟩) q1 id).trans r4⟩)
      obtain ⟨nr, hnr⟩ : ∃ nr, nr = renewF rt (rt.os + 1) := ⟨_, rfl⟩
      have HNR := Lib.hid hnr
      have o0 : 0 ≤ rt.os := by rw [hrt]; exact hS.1
      have o1 : rt.os ≤ 1000000 := by rw [hrt]; exact hS.2
      have ow : IntKind.i64.wrap (rt.os + 1) = rt.os + 1 := IntWalk.i64_in _ (by omega)
      have HRT := Lib.hid hrt
      have HBX := Lib.hid BX
      have HM := Lib.hid hM
      clear hM hrt hnr d0 r0 r1 r2 r3 r4 s0 s1 s2 s3 s4 BX hS
      refine wp_region_float 21 19 (fun W => W.cell? ⟨mb, 0, none⟩ = some (.slice (some ⟨R, 0, none⟩) n cR) ∧ W.cell? ⟨R, 0, none⟩ = some (.int .i64 rt.os) ∧ W.cell? ⟨R, 1, none⟩ = some (.int .i64 rt.orr) ∧ W.cell? ⟨R, 2, none⟩ = some (.int .i64 rt.ls) ∧ W.cell? ⟨R, 3, none⟩ = some (.int .i64 rt.lr) ∧ W.cell? ⟨R, 4, none⟩ = some (.int .i64 rt.par)) (by kernel_rfl) (by kernel_rfl) (fun _ a d _ _ h => by cases d <;> exact h) (SOF.out _ (by repeat (first | (with_reducible exact Far.refl _ _) | (with_reducible assumption) | (with_reducible refine Far.drew ?_) | (with_reducible refine Far.drewN ?_ _) | (with_reducible refine Far.alloc ?_ _) | (with_reducible refine Far.below ?_ (by assumption))))) ?_
      simp only [List.take_succ_cons, List.take_zero, List.drop_succ_cons, List.drop_zero]
      repeat (apply wpFloat_step rfl; · (intro W hW; (try dsimp only at hW); go_simp; (try with_reducible rfl)); (try simp only [Act.put, List.setIfInBounds_toArray, List.set_cons_zero, List.set_cons_succ]))
      refine wpFloat_nil ?_
      refine wpChain_step (fun K hK => ?_)
      go_simp
      (with_reducible refine (renew_v rt.os rt.orr rt.ls rt.lr rt.par (rt.os + 1) nr _ HNR.out).mono ?_)
      rintro e w2 ⟨rfl, hb⟩
      have F2 : Far (fun _ => False) w1 w2 := Far.below (by repeat (first | (with_reducible exact Far.refl _ _) | (with_reducible assumption) | (with_reducible refine Far.drew ?_) | (with_reducible refine Far.drewN ?_ _) | (with_reducible refine Far.alloc ?_ _) | (with_reducible refine Far.below ?_ (by assumption)))) hb
      clear hb
      refine hK.out _ _ (SOF.out _ F2) ?_
      clear hK K
      (try simp only [Act.put, List.setIfInBounds_toArray, List.set_cons_zero, List.set_cons_succ])
      refine wpChain_step (fun K hK => ?_)
      go_simp
      refine hK.out _ _ (SOF.out _ F2) ?_
      clear hK K
      (try simp only [Act.put, List.setIfInBounds_toArray, List.set_cons_zero, List.set_cons_succ])
      refine wpChain_last (fun K hK => ?_)
      have ss := SOF.out _ F2
      obtain ⟨t0, t1, t2, t3, t4, t5⟩ := ss
      obtain ⟨⟨_, u0⟩, ⟨_, u1⟩, ⟨_, u2⟩, ⟨_, u3⟩, ⟨_, u4⟩⟩ := (HM.out.keep F2).rt 0 hi
      simp only [Nat.zero_mul, Nat.zero_add] at u0 u1 u2 u3 u4
      go_simp
      refine hK.out _ _ ?_
      clear hK K
      (try simp only [Act.put, List.setIfInBounds_toArray, List.set_cons_zero, List.set_cons_succ])
      go_wp2_with fail
      go_meet
      have e : renewF (m.rs 0) ((m.rs 0).os + 1) = nr := by rw [HNR.out, HRT.out]
      rw [e]
      refine ⟨⟨tv, hv, lab, by have := (HM.out.keep F2).route hi nr; unfold setRt at this; simpa only [Nat.zero_mul, Nat.zero_add] using this⟩, ?_⟩
      have := HBX.out.trans ((far_setRt (C := fun b => b = R) (F2.mono (fun _ e => e.elim)) (.inl rfl) 0 nr).to_keeps (Nat.le_trans HB.out HBX.out.size) (fun b e => by rw [e]; exact ⟨HM.out.lows.2.1, HM.out.gR⟩))
      unfold setRt at this
      simpa only [Nat.zero_add] using this
    case rest =>
      obtain ⟨MX, BX⟩ := hcut
      obtain ⟨wx, hwx⟩ : ∃ wx, wx = wc := ⟨_, rfl⟩
      subst hwx
      obtain ⟨m2, hm2⟩ : ∃ m2 : St, m2 = { m with rs := upd m.rs 0 (renewF (m.rs 0) ((m.rs 0).os + 1)) } := ⟨_, rfl⟩
      rw [← hm2] at MX
      have TL : RowKit.Hid (0 < (m2.told 0).length ∧ (m2.told 0).length ≤ 1000) := Lib.hid (by rw [hm2]; exact hT)
      have HM2 := Lib.hid hm2
      have HBX := Lib.hid BX
      clear hm2
      obtain ⟨tv, hv, lab, hM⟩ := MX
      obtain ⟨e1, e2, e3, e4, e5, e6⟩ := hM.ne
      obtain ⟨q0, q1, q2, q3⟩ := hM.lt (by omega)
      obtain ⟨g, cap, htv, hgc, hgm, hgB, hgl, hgla, _⟩ := hM.told_form (i := 0) hi TL.out.1
      obtain ⟨A, hA⟩ : ∃ A : Option Addr, A = some ⟨g, 0, none⟩ := ⟨_, rfl⟩
      obtain ⟨rt, hrt⟩ : ∃ rt, rt = m2.rs 0 := ⟨_, rfl⟩
      obtain ⟨L, hLe⟩ : ∃ L, L = (m2.told 0).length := ⟨_, rfl⟩
      rw [← hA, ← hLe] at htv
      obtain ⟨d1, _⟩ := hM.s1
      obtain ⟨d0, _⟩ := hM.s0
      obtain ⟨dt, df⟩ := hM.th 0 hi
      have dr := hM.rt 0 hi
      rw [← hrt] at dr
      simp only [Nat.zero_mul] at dr
      rw [htv] at dt
      obtain ⟨⟨r0, _⟩, ⟨r1, _⟩, _, _, _⟩ := dr
      obtain ⟨_, ⟨z0, z1, z2, z3⟩⟩ := hM.row_ne hi
      obtain ⟨_, low⟩ := hM.row_low hi
      rw [htv] at z0 z1 z2 z3 low
      have hown : wx.ownsRow B 41 2 (.slice A L cap) (m2.told 0).length (dstCells (m2.told 0)) := by rw [← htv]; exact hM.tr 0 hi
      have i0 : (0 : Int) ≤ ((0 : Nat) : Int) := Int.natCast_nonneg _
      have i1 : ((0 : Nat) : Int) < (n : Int) := by omega
      have n0 : (0 : Int) < (n : Int) := by omega
      have SOF : RowKit.Hid (∀ W, Far (fun b => some b = (Value.slice A L cap).ownBlock) wx W → (fun W => W.cell? ⟨mb, 1, none⟩ = some (.slice (some ⟨T, 0, none⟩) n cT) ∧ W.cell? ⟨mb, 0, none⟩ = some (.slice (some ⟨R, 0, none⟩) n cR) ∧ W.cell? ⟨T, 0, none⟩ = some (.slice A L cap) ∧ W.cell? ⟨R, 0, none⟩ = some (.int .i64 rt.os) ∧ W.cell? ⟨R, 1, none⟩ = some (.int .i64 rt.orr) ∧ W.frozen? ⟨T, 0, none⟩ = false) W) :=
        Lib.hid (fun W h => ⟨(h.cell (p := ⟨mb, 1, none⟩) q0 z0).trans d1, (h.cell (p := ⟨mb, 0, none⟩) q0 z0).trans d0, (h.cell (p := ⟨T, 0, none⟩) q2 z2).trans dt, (h.cell (p := ⟨R, 0, none⟩) q1 z1).trans r0, (h.cell (p := ⟨R, 1, none⟩) q1 z1).trans r1, (h.frozen (p := ⟨T, 0, none⟩) q2 z2).trans df⟩)
      have HM := Lib.hid hM
      have HTV := Lib.hid htv
      have HLOW := Lib.hid low
      have HOWN := Lib.hid hown
      have HRT := Lib.hid hrt
      have hB2 : B ≤ wx.heap.size := Nat.le_trans HB.out BX.size
      have HB2 := Lib.hid hB2
      have LL : RowKit.Hid ((m2.told 0).length ≤ 1000000) := Lib.hid (by have := TL.out.2; omega)
      clear BX hM htv hA hLe hrt d1 d0 dt df r0 r1 z0 z1 z2 z3 low hown hgc hgm hgB hgl hgla hB2
      go_upto_region 5 with fail
      refine wp_region_float 20 17 (fun W => W.cell? ⟨mb, 1, none⟩ = some (.slice (some ⟨T, 0, none⟩) n cT) ∧ W.cell? ⟨mb, 0, none⟩ = some (.slice (some ⟨R, 0, none⟩) n cR) ∧ W.cell? ⟨T, 0, none⟩ = some (.slice A L cap) ∧ W.cell? ⟨R, 0, none⟩ = some (.int .i64 rt.os) ∧ W.cell? ⟨R, 1, none⟩ = some (.int .i64 rt.orr) ∧ W.frozen? ⟨T, 0, none⟩ = false) (by kernel_rfl) (by kernel_rfl) (fun _ a d _ _ h => by cases d <;> exact h) (SOF.out _ (by repeat (first | (with_reducible exact Far.refl _ _) | (with_reducible assumption) | (with_reducible refine Far.drew ?_) | (with_reducible refine Far.drewN ?_ _) | (with_reducible refine Far.alloc ?_ _) | (with_reducible refine Far.below ?_ (by assumption))))) ?_
      simp only [List.take_succ_cons, List.take_zero, List.drop_succ_cons, List.drop_zero]
      repeat (apply wpFloat_step rfl; · (intro W hW; (try dsimp only at hW); go_simp; (try with_reducible rfl)); (try simp only [Act.put, List.setIfInBounds_toArray, List.set_cons_zero, List.set_cons_succ]))
      refine wpFloat_nil ?_
      refine wpChain_step (fun K hK => ?_)
      go_simp
      refine hK.out _ _ (SOF.out _ (by repeat (first | (with_reducible exact Far.refl _ _) | (with_reducible assumption) | (with_reducible refine Far.drew ?_) | (with_reducible refine Far.drewN ?_ _) | (with_reducible refine Far.alloc ?_ _) | (with_reducible refine Far.below ?_ (by assumption))))) ?_
      clear hK K
      (try simp only [Act.put, List.setIfInBounds_toArray, List.set_cons_zero, List.set_cons_succ])
      refine wpChain_step (fun K hK => ?_)
      refine step_tell _ _ (by rfl) B (m2.told 0) rt.own (.slice A L cap) (by rfl) (own_far HOWN.out (by repeat (first | (with_reducible exact Far.refl _ _) | (with_reducible assumption) | (with_reducible refine Far.drew ?_) | (with_reducible refine Far.drewN ?_ _) | (with_reducible refine Far.alloc ?_ _) | (with_reducible refine Far.below ?_ (by assumption))))) wx.heap.size _ (by rfl) ⟨(Whole.new wx 41 #[.int .i64 rt.os, .int .i64 rt.orr]).cell 0, (Whole.new wx 41 #[.int .i64 rt.os, .int .i64 rt.orr]).cell 1⟩ LL.out (by have := HB2.out; simp; omega) ?_
      intro v' wA hG
      obtain ⟨g', c', rfl, _, _⟩ := hG.own.form (by simp)
      obtain ⟨NX, FA, FB⟩ := HM.out.told_grew hi HTV.out (by repeat (first | (with_reducible exact Far.refl _ _) | (with_reducible assumption) | (with_reducible refine Far.drew ?_) | (with_reducible refine Far.drewN ?_ _) | (with_reducible refine Far.alloc ?_ _) | (with_reducible refine Far.below ?_ (by assumption)))) hG
      simp only [List.length_append, List.length_singleton] at NX FB
      have HNX := Lib.hid NX
      have HFB := Lib.hid FB
      have hsA := FA.size
      clear NX FB hG
      refine hK.out _ _ (SOF.out _ FA) ?_
      clear hK K
      (try simp only [Act.put, List.setIfInBounds_toArray, List.set_cons_zero, List.set_cons_succ])
      refine wpChain_step (fun K hK => ?_)
      go_simp
      refine hK.out _ _ (SOF.out _ FA) ?_
      clear hK K
      (try simp only [Act.put, List.setIfInBounds_toArray, List.set_cons_zero, List.set_cons_succ])
      refine wpChain_last (fun K hK => ?_)
      obtain ⟨t0, t1, t2, t3, t4, t5⟩ := SOF.out _ FA
      go_simp
      refine hK.out _ _ ?_
      clear hK K
      (try simp only [Act.put, List.setIfInBounds_toArray, List.set_cons_zero, List.set_cons_succ])
      go_wp2_with fail
      refine bodyPost_end (results_none (by rfl) _ _ _) rfl ⟨rfl, ?_, ?_⟩
      · have e : m.tell 0 (renewF (m.rs 0) ((m.rs 0).os + 1)) = { m2 with told := upd m2.told 0 (m2.told 0 ++ [rt.own]) } := by rw [HRT.out, HM2.out]; simp [St.tell, upd_same]
        rw [e]
        exact HNX.out
      · exact HBX.out.trans (HFB.out.to_keeps HB2.out HLOW.out)


end Go.Proofs.Ytefnjhdmpnfacaa
