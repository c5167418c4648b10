/- Contract of the mesh's start. -/
import Derived.Test.YtefnjhdmpnfacaaMeshPush
import Derived.Test.YtefnjhdmpnfacaaFloat
import Derived.Test.YtefnjhdmpnfacaaLaws
import Derived.Deep.QuietTactic
import Derived.BigQuiet
import Derived.Deep.CutRange
namespace Go.Proofs.Ytefnjhdmpnfacaa
open Go.RowKit
set_option linter.unusedVariables false

set_option maxHeartbeats 4000000 in
set_option maxRecDepth 100000 in
theorem mstart_is (n : Nat) (w : World) (hn : 2 ≤ n) (hn8 : n ≤ 8) : Calls Try.prog 12 #[.int .i64 n] w (Started w n) := by
  obtain ⟨mb, hmb⟩ : ∃ mb, mb = w.heap.size := ⟨_, rfl⟩
  obtain ⟨B, hBw⟩ : ∃ B, B = w.heap.size := ⟨_, rfl⟩
  have HMB := Lib.hid hmb
  have HBW := Lib.hid hBw
  have HB : RowKit.Hid (B ≤ w.heap.size) := Lib.hid (by omega)
  have hst : BldX (w.alloc (.cells #[.slice none 0 0, .slice none 0 0, .slice none 0 0] 36)) B mb 0 0 0 := by rw [hmb, hBw]; exact bld_start w
  have HST := Lib.hid hst
  have hmb' := hmb.symm
  clear hst hmb hBw
  go_enter Try.func12, Try.ntmps12
  go_wp2_with fail
  go_loopw [8] (fun i wr => ∃ k : Nat, k ≤ n ∧ i = .int .i64 k ∧ BldX wr B mb k k k ∧ Below B w wr) (fun i _ => n - (intOf i).toNat)
  case atStart => exact ⟨0, by omega, rfl, HST.out, (Below.refl _ _).alloc HB.out _⟩
  case round =>
    obtain ⟨k, hk, rfl, hX, hbx⟩ := hrel
    by_cases hlt : k < n
    · obtain ⟨rb, hrb⟩ : ∃ rb, rb = (((k : Nat) : Int) == 0) := ⟨_, rfl⟩
      obtain ⟨nr, hnr⟩ : ∃ nr, nr = startSt.rs k := ⟨_, rfl⟩
      have HNE := Lib.hid hnr
      have hns : nr = startF rb 0 := by
        rw [hnr, hrb]
        show startF (decide (k = 0)) 0 = _
        congr 1
        rw [Bool.eq_iff_iff]; simp
      have HNR := Lib.hid hns
      have hrb' := hrb.symm
      clear hrb hnr hns
      go_upto_region 5 with fail
      go_cut [] from 11 to 50 (fun wx => BldX wx B mb (k + 1) k k ∧ Below B w wx)
      case first =>
        obtain ⟨vR, vT, vH, tv, lab, hL⟩ := hX
        have q0 := hL.s0.lt
        obtain ⟨d0, f0⟩ := hL.s0
        obtain ⟨d1, f1⟩ := hL.s1
        obtain ⟨d2, f2⟩ := hL.s2
        have nt : ∀ k, lab k = 0 → some k ≠ vR.ownBlock ∧ some k ≠ vT.ownBlock ∧ some k ≠ vH.ownBlock := fun k hk => ⟨fun e => by have := hL.lR k e.symm; omega, fun e => by have := hL.lT k e.symm; omega, fun e => by have := hL.lH k e.symm; omega⟩
        obtain ⟨z0, z1, z2⟩ := nt _ hL.l0
        clear nt
        have hB2 : B ≤ wr.heap.size := Nat.le_trans HB.out hbx.size
        have HB2 := Lib.hid hB2
        have HBX := Lib.hid hbx
        have HLL := Lib.hid hL
        have SOF : RowKit.Hid (∀ W, Far (fun b => some b = vR.ownBlock) wr W → (fun W => W.cell? ⟨mb, 0, none⟩ = some vR ∧ W.frozen? ⟨mb, 0, none⟩ = false) W) :=
          Lib.hid (fun W h => ⟨(h.cell (p := ⟨mb, 0, none⟩) q0 z0).trans d0, (h.frozen (p := ⟨mb, 0, none⟩) q0 z0).trans f0⟩)
        have HRR := Lib.hid hL.rr
        clear hL hbx d0 d1 d2 f0 f1 f2 z0 z1 z2 hB2
        refine wp_region_float 12 7 (fun W => W.cell? ⟨mb, 0, none⟩ = some vR ∧ W.frozen? ⟨mb, 0, none⟩ = false) (by kernel_rfl) (by kernel_rfl) (fun _ a d _ _ h => by cases d <;> exact h) (SOF.out _ (by repeat (first | (with_reducible exact Far.refl _ _) | (with_reducible assumption) | (with_reducible refine Far.drew ?_) | (with_reducible refine Far.drewN ?_ _) | (with_reducible refine Far.alloc ?_ _) | (with_reducible refine Far.below ?_ (by assumption))))) ?_
        simp only [List.take_succ_cons, List.take_zero, List.drop_succ_cons, List.drop_zero]
        repeat (apply wpFloat_step rfl; · (intro W hW; (try dsimp only at hW); go_simp; (try with_reducible rfl)); (try simp only [Act.put, List.setIfInBounds_toArray, List.set_cons_zero, List.set_cons_succ]))
        refine wpFloat_nil ?_
        refine wpChain_step (fun K hK => ?_)
        go_simp
        (with_reducible refine (start_is rb 0 nr _ HNR.out).mono ?_)
        rintro e w2 ⟨rfl, hb⟩
        have F2 : Far (fun _ => False) wr w2 := Far.below (by repeat (first | (with_reducible exact Far.refl _ _) | (with_reducible assumption) | (with_reducible refine Far.drew ?_) | (with_reducible refine Far.drewN ?_ _) | (with_reducible refine Far.alloc ?_ _) | (with_reducible refine Far.below ?_ (by assumption)))) hb
        clear hb
        have F3 : Far (fun b => some b = vR.ownBlock) wr w2 := F2.mono (fun _ e => e.elim)
        refine hK.out _ _ (SOF.out _ F3) ?_
        clear hK K
        (try simp only [Act.put, List.setIfInBounds_toArray, List.set_cons_zero, List.set_cons_succ])
        refine wpChain_step (fun K hK => ?_)
        go_simp
        refine hK.out _ _ (SOF.out _ (F3.alloc _)) ?_
        clear hK K
        (try simp only [Act.put, List.setIfInBounds_toArray, List.set_cons_zero, List.set_cons_succ])
        refine wpChain_step (fun K hK => ?_)
        refine step_push _ _ 32 43 5 40 _ (by rfl) Try.underlying32 info43 rfl (by omega) (by omega) B vR k (rteRow k) nr.cells.toList (by rfl) (own_far HRR.out (F2.alloc _)) w2.heap.size _ (by rfl) rfl (whole_at (t := 43) (Whole.new w2 43 nr.cells)) (by simp [Rte.cells, Value.oneCell']) (by omega) (by have := HB2.out; have := F2.size; simp; omega) ?_
        intro v' wA hG
        obtain ⟨g', c', rfl, _, _⟩ := hG.own.form (by simp)
        rw [HNE.out] at hG
        obtain ⟨NX, FA, FB⟩ := HLL.out.grew_routes HB2.out (F2.alloc _) hG
        have HNX := Lib.hid NX
        have HFB := Lib.hid FB
        clear NX FB hG
        refine hK.out _ _ (SOF.out _ FA) ?_
        clear hK K
        (try simp only [Act.put, List.setIfInBounds_toArray, List.set_cons_zero, List.set_cons_succ])
        refine wpChain_step (fun K hK => ?_)
        go_simp
        refine hK.out _ _ (SOF.out _ FA) ?_
        clear hK K
        (try simp only [Act.put, List.setIfInBounds_toArray, List.set_cons_zero, List.set_cons_succ])
        refine wpChain_step (fun K hK => ?_)
        go_simp
        refine hK.out _ _ (SOF.out _ FA) ?_
        clear hK K
        (try simp only [Act.put, List.setIfInBounds_toArray, List.set_cons_zero, List.set_cons_succ])
        refine wpChain_last (fun K hK => ?_)
        obtain ⟨t0, t1⟩ := SOF.out _ FA
        go_simp
        refine hK.out _ _ ?_
        clear hK K
        (try simp only [Act.put, List.setIfInBounds_toArray, List.set_cons_zero, List.set_cons_succ])
        go_wp2_with fail
        go_meet
        exact ⟨HNX.out, HBX.out.trans HFB.out⟩
      case rest =>
        obtain ⟨hX, hbx⟩ := hcut
        obtain ⟨wr, hwr⟩ : ∃ wr, wr = wc := ⟨_, rfl⟩
        subst hwr
        go_upto_region 6 with fail
        go_cut [] from 11 to 50 (fun wx => BldX wx B mb (k + 1) (k + 1) k ∧ Below B w wx)
        case first =>
          obtain ⟨vR, vT, vH, tv, lab, hL⟩ := hX
          have q0 := hL.s0.lt
          obtain ⟨d0, f0⟩ := hL.s0
          obtain ⟨d1, f1⟩ := hL.s1
          obtain ⟨d2, f2⟩ := hL.s2
          have nt : ∀ k, lab k = 0 → some k ≠ vR.ownBlock ∧ some k ≠ vT.ownBlock ∧ some k ≠ vH.ownBlock := fun k hk => ⟨fun e => by have := hL.lR k e.symm; omega, fun e => by have := hL.lT k e.symm; omega, fun e => by have := hL.lH k e.symm; omega⟩
          obtain ⟨z0, z1, z2⟩ := nt _ hL.l0
          clear nt
          have hB2 : B ≤ wr.heap.size := Nat.le_trans HB.out hbx.size
          have HB2 := Lib.hid hB2
          have HBX := Lib.hid hbx
          have HLL := Lib.hid hL
          obtain ⟨R, cR, hvR, hRB, hRl⟩ := hL.rr.form (by omega)
          have hrr := hL.rr
          have hlR := hL.lR
          rw [hvR] at hrr hlR d0
          have zR : some R ≠ vT.ownBlock := fun e => by have := hL.lT R e.symm; have := hlR R rfl; omega
          have e0 := (own_slot hrr _ _ (rteRow_at (j := 0) (Nat.lt_succ_self k) (by omega))).cell
          have e1 := (own_slot hrr _ _ (rteRow_at (j := 1) (Nat.lt_succ_self k) (by omega))).cell
          rw [← HNE.out] at e0 e1
          have HTT := Lib.hid hL.tt
          have SOF : RowKit.Hid (∀ W, Far (fun b => some b = vT.ownBlock) wr W → (fun W => W.cell? ⟨mb, 1, none⟩ = some vT ∧ W.frozen? ⟨mb, 1, none⟩ = false ∧ W.cell? ⟨mb, 0, none⟩ = some (.slice (some ⟨R, 0, none⟩) (k + 1) cR) ∧ W.cell? ⟨R, k * 5, none⟩ = some (.int .i64 nr.os) ∧ W.cell? ⟨R, k * 5 + 1, none⟩ = some (.int .i64 nr.orr)) W) :=
            Lib.hid (fun W h => ⟨(h.cell (p := ⟨mb, 1, none⟩) q0 z1).trans d1, (h.frozen (p := ⟨mb, 1, none⟩) q0 z1).trans f1, (h.cell (p := ⟨mb, 0, none⟩) q0 z1).trans d0, (h.cell (p := ⟨R, k * 5, none⟩) hRl zR).trans e0, (h.cell (p := ⟨R, k * 5 + 1, none⟩) hRl zR).trans e1⟩)
          have n1 : (0 : Int) ≤ ((k : Nat) : Int) := Int.natCast_nonneg _
          have n2 : ((k : Nat) : Int) < ((k : Nat) : Int) + 1 := by omega
          clear hL hbx d0 d1 d2 f0 f1 f2 z0 z1 z2 hB2 hvR hRB hRl hrr hlR zR e0 e1
          refine wp_region_float 18 13 (fun W => W.cell? ⟨mb, 1, none⟩ = some vT ∧ W.frozen? ⟨mb, 1, none⟩ = false ∧ W.cell? ⟨mb, 0, none⟩ = some (.slice (some ⟨R, 0, none⟩) (k + 1) cR) ∧ W.cell? ⟨R, k * 5, none⟩ = some (.int .i64 nr.os) ∧ W.cell? ⟨R, k * 5 + 1, none⟩ = some (.int .i64 nr.orr)) (by kernel_rfl) (by kernel_rfl) (fun _ a d _ _ h => by cases d <;> exact h) (SOF.out _ (by repeat (first | (with_reducible exact Far.refl _ _) | (with_reducible assumption) | (with_reducible refine Far.drew ?_) | (with_reducible refine Far.drewN ?_ _) | (with_reducible refine Far.alloc ?_ _) | (with_reducible refine Far.below ?_ (by assumption))))) ?_
          simp only [List.take_succ_cons, List.take_zero, List.drop_succ_cons, List.drop_zero]
          repeat (apply wpFloat_step rfl; · (intro W hW; (try dsimp only at hW); go_simp; (try with_reducible rfl)); (try simp only [Act.put, List.setIfInBounds_toArray, List.set_cons_zero, List.set_cons_succ]))
          refine wpFloat_nil ?_
          refine wpChain_step (fun K hK => ?_)
          go_simp
          refine hK.out _ _ (SOF.out _ (by repeat (first | (with_reducible exact Far.refl _ _) | (with_reducible assumption) | (with_reducible refine Far.drew ?_) | (with_reducible refine Far.drewN ?_ _) | (with_reducible refine Far.alloc ?_ _) | (with_reducible refine Far.below ?_ (by assumption))))) ?_
          clear hK K
          (try simp only [Act.put, List.setIfInBounds_toArray, List.set_cons_zero, List.set_cons_succ])
          refine wpChain_step (fun K hK => ?_)
          go_simp
          refine hK.out _ _ (SOF.out _ (by repeat (first | (with_reducible exact Far.refl _ _) | (with_reducible assumption) | (with_reducible refine Far.drew ?_) | (with_reducible refine Far.drewN ?_ _) | (with_reducible refine Far.alloc ?_ _) | (with_reducible refine Far.below ?_ (by assumption))))) ?_
          clear hK K
          (try simp only [Act.put, List.setIfInBounds_toArray, List.set_cons_zero, List.set_cons_succ])
          refine wpChain_step (fun K hK => ?_)
          refine step_push _ _ 33 65 1 24 _ (by rfl) Try.underlying33 info65 rfl (by omega) (by omega) B vT k ((List.range k).map tv) [.slice (some ⟨wr.heap.size, 0, none⟩) 1 1] (by rfl) (own_far HTT.out (by repeat (first | (with_reducible exact Far.refl _ _) | (with_reducible assumption) | (with_reducible refine Far.drew ?_) | (with_reducible refine Far.drewN ?_ _) | (with_reducible refine Far.alloc ?_ _) | (with_reducible refine Far.below ?_ (by assumption))))) (wr.heap.size + 1) _ (by rfl) rfl (whole_at (t := 65) (cs := #[.slice (some ⟨wr.heap.size, 0, none⟩) 1 1]) (Whole.new_at (w := wr.alloc (.cells #[.int .i64 nr.os, .int .i64 nr.orr] 41)) (by simp))) (by simp [Value.oneCell']) (by omega) (by have := HB2.out; simp; omega) ?_
          intro v' wA hG
          obtain ⟨g', c', rfl, _, _⟩ := hG.own.form (by simp)
          obtain ⟨NX, FA, FB⟩ := HLL.out.grew_told HB2.out (by repeat (first | (with_reducible exact Far.refl _ _) | (with_reducible assumption) | (with_reducible refine Far.drew ?_) | (with_reducible refine Far.drewN ?_ _) | (with_reducible refine Far.alloc ?_ _) | (with_reducible refine Far.below ?_ (by assumption)))) (Nat.le_refl _) (by simp; omega) (by rw [← HNE.out]; exact own_far (own_new wr HB2.out nr.os nr.orr) (by repeat (first | (with_reducible exact Far.refl _ _) | (with_reducible assumption) | (with_reducible refine Far.drew ?_) | (with_reducible refine Far.drewN ?_ _) | (with_reducible refine Far.alloc ?_ _) | (with_reducible refine Far.below ?_ (by assumption))))) hG
          have HNX := Lib.hid NX
          have HFB := Lib.hid FB
          clear NX FB hG
          refine hK.out _ _ (SOF.out _ FA) ?_
          clear hK K
          (try simp only [Act.put, List.setIfInBounds_toArray, List.set_cons_zero, List.set_cons_succ])
          refine wpChain_step (fun K hK => ?_)
          go_simp
          refine hK.out _ _ (SOF.out _ FA) ?_
          clear hK K
          (try simp only [Act.put, List.setIfInBounds_toArray, List.set_cons_zero, List.set_cons_succ])
          refine wpChain_step (fun K hK => ?_)
          go_simp
          refine hK.out _ _ (SOF.out _ FA) ?_
          clear hK K
          (try simp only [Act.put, List.setIfInBounds_toArray, List.set_cons_zero, List.set_cons_succ])
          refine wpChain_last (fun K hK => ?_)
          obtain ⟨t0, t1, t2, t3, t4⟩ := SOF.out _ FA
          go_simp
          refine hK.out _ _ ?_
          clear hK K
          (try simp only [Act.put, List.setIfInBounds_toArray, List.set_cons_zero, List.set_cons_succ])
          go_wp2_with fail
          go_meet
          exact ⟨HNX.out, HBX.out.trans HFB.out⟩
        case rest =>
          obtain ⟨hX, hbx⟩ := hcut
          obtain ⟨wr, hwr⟩ : ∃ wr, wr = wc := ⟨_, rfl⟩
          subst hwr
          obtain ⟨vR, vT, vH, tv, lab, hL⟩ := hX
          have q0 := hL.s0.lt
          obtain ⟨d0, f0⟩ := hL.s0
          obtain ⟨d1, f1⟩ := hL.s1
          obtain ⟨d2, f2⟩ := hL.s2
          have nt : ∀ k, lab k = 0 → some k ≠ vR.ownBlock ∧ some k ≠ vT.ownBlock ∧ some k ≠ vH.ownBlock := fun k hk => ⟨fun e => by have := hL.lR k e.symm; omega, fun e => by have := hL.lT k e.symm; omega, fun e => by have := hL.lH k e.symm; omega⟩
          obtain ⟨z0, z1, z2⟩ := nt _ hL.l0
          clear nt
          have hB2 : B ≤ wr.heap.size := Nat.le_trans HB.out hbx.size
          have HB2 := Lib.hid hB2
          have HBX := Lib.hid hbx
          have HLL := Lib.hid hL
          have HHH := Lib.hid hL.hh
          have lw : mb < wr.heap.size := q0
          clear hL hbx z0 z1 hB2 d0 d1 f0 f1
          go_wp2_with (at_builtin; refine wpList_plain rfl (fun K hK => ?_); refine step_push _ _ 34 37 1 24 _ (by rfl) Try.underlying34 info37 rfl (by omega) (by omega) B vH k (List.replicate k (.slice none 0 0)) [.slice none 0 0] (by rfl) (own_far HHH.out (by repeat (first | (with_reducible exact Far.refl _ _) | (with_reducible assumption) | (with_reducible refine Far.drew ?_) | (with_reducible refine Far.drewN ?_ _) | (with_reducible refine Far.alloc ?_ _) | (with_reducible refine Far.below ?_ (by assumption))))) wr.heap.size _ (by rfl) rfl (whole_at (t := 37) (cs := #[.slice none 0 0]) (Whole.new wr 37 _)) (by simp [Value.oneCell']) (by omega) (by have := HB2.out; simp; omega) ?_; intro v' wA hG; obtain ⟨g', c', rfl, _, _⟩ := hG.own.form (by simp); obtain ⟨NX, FA, FB⟩ := HLL.out.grew_heard HB2.out (by repeat (first | (with_reducible exact Far.refl _ _) | (with_reducible assumption) | (with_reducible refine Far.drew ?_) | (with_reducible refine Far.drewN ?_ _) | (with_reducible refine Far.alloc ?_ _) | (with_reducible refine Far.below ?_ (by assumption)))) hG; have HNX := Lib.hid NX; have HFB := Lib.hid FB; have t0 := (FA.cell (p := ⟨mb, 2, none⟩) lw z2).trans d2; have t1 := (FA.frozen (p := ⟨mb, 2, none⟩) lw z2).trans f2; have t2 := FA.size; clear NX FB hG FA; refine hK _ _ ?_; clear hK K)
          go_roundw
          case rel => exact ⟨k + 1, by omega, by go_num, HNX.out, HBX.out.trans HFB.out⟩
          case measure => simp [intOf]; omega
    · obtain rfl : k = n := by omega
      obtain ⟨vR, vT, vH, tv, lab, hL⟩ := hX
      obtain ⟨R, T, H, cR, cT, cH, hM⟩ := hL.done (by omega)
      have HM := Lib.hid hM
      have HBX := Lib.hid hbx
      clear hM hL hbx
      go_wp2
      go_ret
      refine ⟨mb, R, T, H, cR, cT, cH, rfl, ?_, ?_⟩
      · rw [← HBW.out]; exact HM.out
      · rw [← HBW.out]; exact HBX.out

end Go.Proofs.Ytefnjhdmpnfacaa
