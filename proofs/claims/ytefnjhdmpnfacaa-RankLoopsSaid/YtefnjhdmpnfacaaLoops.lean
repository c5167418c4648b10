/- Whatever nodes hear of each other, late or never, with any costs, and whoever restarts, the parents form no loop after any move, and the Least of each parent is better than that of its child. -/
import Derived.Test.YtefnjhdmpnfacaaFrame
import Derived.Test.YtefnjhdmpnfacaaFrameMore
import Derived.Test.YtefnjhdmpnfacaaMeshStart
import Derived.Test.YtefnjhdmpnfacaaMeshLoop
import Derived.Deep.QuietTactic
import Derived.BigQuiet
namespace Go.Proofs.Ytefnjhdmpnfacaa.rankLoops
open Go.ChangeShapes Go.WideShapes Go.ChangeAt Go.RowKit Go.BigFrame
set_option linter.unusedVariables false

/-- The mesh behind some moves. -/
def after (n : Nat) (ms : List Mv) : St := ms.foldl (stepF n) startSt
theorem after_inv (n : Nat) (hn : 0 < n) (hn8 : n ≤ 60) : ∀ (ms : List Mv), ms.length ≤ 900 → Inv n ms.length (after n ms) := by
  have key : ∀ (ms : List Mv) (m : St) (N : Nat), Inv n N m → N + ms.length ≤ 900 → Inv n (N + ms.length) (ms.foldl (stepF n) m) := by
    intro ms
    induction ms with
    | nil => intro m N h _; exact h
    | cons x ms ih =>
      intro m N h hl
      rw [List.length_cons] at hl
      have := ih (stepF n m x) (N + 1) (h.step hn hn8 (by omega) x) (by omega)
      rw [List.length_cons, show N + (ms.length + 1) = N + 1 + ms.length by omega]
      exact this
  intro ms hl
  have := key ms startSt 0 (Inv.start n) (by omega)
  rwa [Nat.zero_add] at this
theorem after_step (n : Nat) {ms : List Mv} {k : Nat} {x : Mv} (h : ms[k]? = some x) : after n (ms.take (k + 1)) = stepF n (after n (ms.take k)) x := by
  unfold after
  rw [List.take_add_one, h, List.foldl_append]
  rfl

set_option maxHeartbeats 8000000 in
set_option maxRecDepth 100000 in
theorem walk (a0 : Int) (A1 : Option Addr) (len1 cap1 : Nat) (ms1 : List Mv) (w : World) (w0 : (Lit.int .u8 a0).wf = true) (hx1 : Moves w A1 len1 ms1) (hl1 : len1 ≤ cap1) (hm1 : cap1 ≤ maxLen) :
    Calls Try.prog 10 #[.int .u8 a0, .slice A1 len1 cap1] w fun e w' => e = .returned (.bool true) ∧ Below w.heap.size w w' := by
  have HX := Lib.hid hx1
  obtain ⟨a00, a01⟩ := u8_bd w0
  clear hx1 w0
  by_cases hn : 200 < len1
  · have hn' : (200 : Int) < (len1 : Int) := by omega
    go_enter Try.func10, Try.ntmps10
    go_wp2_with fail
    (with_reducible refine (head_any _).mono ?_)
    rintro e w1 ⟨rfl, hb⟩
    go_wp2
    go_ret
    exact ⟨rfl, hb⟩
  have hn' : ¬ (200 : Int) < (len1 : Int) := by omega
  obtain ⟨n, hnn⟩ : ∃ n : Nat, 2 + a0 % 7 = (n : Int) := ⟨(2 + a0 % 7).toNat, by omega⟩
  have hn2 : 2 ≤ n := by omega
  have hn8 : n ≤ 8 := by omega
  go_enter Try.func10, Try.ntmps10
  go_wp2_with fail
  (with_reducible refine (head_any _).mono ?_)
  rintro e w1 ⟨rfl, hb⟩
  have HB1 := Lib.hid hb
  clear hb
  go_wp2_with fail
  (with_reducible refine (mstart_is n _ hn2 hn8).mono ?_)
  rintro e w2 ⟨mb, R, T, H, cR, cT, cH, rfl, hX2, hb⟩
  obtain ⟨B, hBe⟩ : ∃ B, B = w1.heap.size := ⟨_, rfl⟩
  rw [← hBe] at hX2 hb
  have hBw : w.heap.size ≤ B := by rw [hBe]; exact HB1.out.size
  have hX2' : MeshX w2 B mb R T H cR cT cH n (fun _ => False) (after n (ms1.take 0)) := hX2
  have hB2 : Below w.heap.size w w2 := HB1.out.trans (hb.mono hBw)
  have hBs : B ≤ w2.heap.size := by rw [hBe]; exact hb.size
  have T0 := Lib.hid (And.intro hX2' (And.intro hB2 hBs))
  have HBW := Lib.hid hBw
  clear hX2 hX2' hb hB2 hBs hBe hBw HB1
  go_wp2_with fail
  go_loopw [23] (fun i wr => ∃ k : Nat, k ≤ len1 ∧ i = .int .i64 k ∧ MeshX wr B mb R T H cR cT cH n (fun _ => False) (after n (ms1.take k)) ∧ Below w.heap.size w wr ∧ B ≤ wr.heap.size) (fun i _ => len1 - (intOf i).toNat)
  case atStart => exact ⟨0, by omega, rfl, T0.out⟩
  case round =>
    obtain ⟨k, hk, rfl, hX, hbw, hBs⟩ := hrel
    by_cases hlt : k < len1
    · obtain ⟨b, off, ⟨wh, nd, sc, lt, co⟩, rfl, hbl, hox, hok, c0, c1, c2, c3, c4⟩ := HX.out.at_ hbw hlt
      simp only at c0 c1 c2 c3 c4
      have hlen := HX.out.1
      have hinv := after_inv n (by omega) (by omega) (ms1.take k) (by rw [List.length_take]; omega)
      have hinv2 := after_inv n (by omega) (by omega) (ms1.take (k + 1)) (by rw [List.length_take]; omega)
      have hsm := hinv.small (by omega) (by rw [List.length_take]; omega)
      obtain ⟨m, hm⟩ : ∃ m, m = after n (ms1.take k) := ⟨_, rfl⟩
      obtain ⟨m2, hm2⟩ : ∃ m2, m2 = after n (ms1.take (k + 1)) := ⟨_, rfl⟩
      have hst : m2 = stepF n m ⟨wh, nd, sc, lt, co⟩ := by rw [hm2, hm]; exact after_step n hox
      rw [← hm] at hX hinv hsm
      rw [← hm2] at hinv2
      have HXM := Lib.hid hX
      have HIV := Lib.hid hinv2
      have HSM := Lib.hid hsm
      have HST := Lib.hid hst
      have HM2 := Lib.hid hm2
      have HBB := Lib.hid hbw
      have HBS := Lib.hid hBs
      have HOK := Lib.hid hok
      clear hX hinv hinv2 hsm hst hm hm2 hbw hBs hok hox hlen
      go_wp2_with fail
      (with_reducible refine (apply_is (HXM.out.keep ((Far.refl _ _).alloc _)) (by have := HBS.out; simp; omega) hn2 hn8 HSM.out wh nd sc lt co HOK.out).mono ?_)
      rintro e w3 ⟨rfl, hX3, hb3⟩
      rw [← HST.out] at hX3
      have hb4 : Below w.heap.size w w3 := (HBB.out.alloc (Nat.le_trans HBW.out HBS.out) _).trans (hb3.below.mono HBW.out)
      have hB3 : B ≤ w3.heap.size := Nat.le_trans HBS.out (Nat.le_trans (by simp) hb3.size)
      have HX3 := Lib.hid hX3
      have HB4 := Lib.hid hb4
      have HB3 := Lib.hid hB3
      clear hX3 hb3 hb4 hB3 c0 c1 c2 c3 c4
      obtain ⟨tv, hv, lab, hM⟩ := HX3.out
      have d0 := hM.s0.cell
      have HM := Lib.hid hM
      clear hM
      go_wp2_with fail
      (with_reducible refine (mloop_is HM.out HIV.out.down hn2 hn8).mono ?_)
      rintro e w4 ⟨rfl, rfl⟩
      go_wp2_with fail
      go_loopw [37] (fun i wy => ∃ q : Nat, q ≤ n ∧ i = .int .i64 q ∧ Far (fun _ => False) w3 wy) (fun i _ => n - (intOf i).toNat)
      case atStart => exact ⟨0, by omega, rfl, Far.refl _ _⟩
      case round =>
        obtain ⟨wy, hwy⟩ : ∃ wy, wy = wr := ⟨_, rfl⟩
        subst hwy
        obtain ⟨q, hq, rfl, hF⟩ := hrel
        have hMy := HM.out.keep hF
        have hsz := hF.size
        by_cases hql : q < n
        · obtain ⟨rt, hrt⟩ : ∃ rt, rt = m2.rs q := ⟨_, rfl⟩
          have hpar := HIV.out.par q hql
          rw [← hrt] at hpar
          obtain ⟨d1, _⟩ := hMy.s0
          have dr := hMy.rt q hql
          rw [← hrt] at dr
          obtain ⟨⟨r0, _⟩, ⟨r1, _⟩, ⟨r2, _⟩, ⟨r3, _⟩, ⟨r4, _⟩⟩ := dr
          obtain ⟨z0, z1, z2, z3⟩ := hMy.lt (by omega)
          have j0 : (0 : Int) ≤ (q : Int) := Int.natCast_nonneg _
          have j1 : (q : Int) < (n : Int) := by omega
          have HF := Lib.hid hF
          rcases hpar with hp | ⟨p, hp1, hp2, hp3⟩
          · rw [hp] at r4
            have nn : ¬ (n : Int) ≤ -1 := by omega
            have nd : decide ((n : Int) ≤ -1) = false := decide_eq_false nn
            clear hF hMy hrt hp d0
            go_wp2_with (go_quiet (fail))
            go_roundw
            case rel => exact ⟨q + 1, by omega, by go_num, (HF.out.alloc _).drewN _⟩
            case measure => simp [intOf]; omega
          · rw [hp2] at r4
            have nn : ¬ (n : Int) ≤ (p : Int) := by omega
            have nd : decide ((n : Int) ≤ (p : Int)) = false := decide_eq_false nn
            have p0 : (0 : Int) ≤ (p : Int) := Int.natCast_nonneg _
            have p1 : (p : Int) < (n : Int) := by omega
            have pd : decide ((0 : Int) ≤ (p : Int)) = true := decide_eq_true p0
            obtain ⟨rp, hrp⟩ : ∃ rp, rp = m2.rs p := ⟨_, rfl⟩
            rw [← hrp] at hp3
            have er := hMy.rt p hp1
            rw [← hrp] at er
            obtain ⟨_, _, ⟨e2, _⟩, ⟨e3, _⟩, _⟩ := er
            have HP3 := Lib.hid hp3.symm
            obtain ⟨wb, hwb⟩ : ∃ wb, wb = wy.alloc (.cells #[.int .i64 rt.os, .int .i64 rt.orr, .int .i64 rt.ls, .int .i64 rt.lr, .int .i64 (p : Nat)] 43) := ⟨_, rfl⟩
            have hWb : Whole wb wy.heap.size 43 #[.int .i64 rt.os, .int .i64 rt.orr, .int .i64 rt.ls, .int .i64 rt.lr, .int .i64 (p : Nat)] := by rw [hwb]; exact Whole.new _ _ _
            have hwl : ∀ b, b < wy.heap.size → b < wb.heap.size := fun b hb => by rw [hwb]; simp; omega
            have hwc : ∀ (b o : Nat), b < wy.heap.size → wb.cell? ⟨b, o, none⟩ = wy.cell? ⟨b, o, none⟩ := fun b o hb => by rw [hwb]; exact ((Far.refl (fun _ => False) wy).alloc _).cell (p := ⟨b, o, none⟩) hb id
            have x0 : ∀ u, (ext wb u).cell? ⟨wy.heap.size, 2, none⟩ = some (.int .i64 rt.ls) := fun u => (ext_cell wb u hWb.lt).trans (hWb.cell 2)
            have x1 : ∀ u, (ext wb u).cell? ⟨wy.heap.size, 3, none⟩ = some (.int .i64 rt.lr) := fun u => (ext_cell wb u hWb.lt).trans (hWb.cell 3)
            have x2 : ∀ u, (ext wb u).cell? ⟨wy.heap.size, 4, none⟩ = some (.int .i64 (p : Nat)) := fun u => (ext_cell wb u hWb.lt).trans (hWb.cell 4)
            have x3 : ∀ u, (ext wb u).cell? ⟨mb, 0, none⟩ = some (.slice (some ⟨R, 0, none⟩) n cR) := fun u => (ext_cell wb u (hwl _ z0)).trans ((hwc _ _ z0).trans d1)
            have x4 : ∀ u, (ext wb u).cell? ⟨R, p * 5 + 2, none⟩ = some (.int .i64 rp.ls) := fun u => (ext_cell wb u (hwl _ z1)).trans ((hwc _ _ z1).trans e2)
            have x5 : ∀ u, (ext wb u).cell? ⟨R, p * 5 + 3, none⟩ = some (.int .i64 rp.lr) := fun u => (ext_cell wb u (hwl _ z1)).trans ((hwc _ _ z1).trans e3)
            have HFB : RowKit.Hid (Far (fun _ => False) w3 wb) := Lib.hid (by rw [hwb]; exact HF.out.alloc _)
            have hwb' := hwb.symm
            clear hF hMy hrt hp2 hp3 d0 hrp e2 e3 hwl hwc hwb hWb
            go_upto_region 14 with fail
            refine wp_region_ext (by kernel_rfl) (by kernel_rfl) ?_
            repeat (go_big_quiet_step ((go_at_call 19; with_reducible exact calls_ext (better_is rp.ls rp.lr rt.ls rt.lr true _ HP3.out))))
            refine wpQuiet_nil ?_
            rintro _ ⟨u, rfl⟩
            have HE := Lib.hid (HFB.out.below (ext_below wb u))
            clear x0 x1 x2 x3 x4 x5 hwb'
            go_wp2_with fail
            go_roundw
            case rel => exact ⟨q + 1, by omega, by go_num, HE.out⟩
            case measure => simp [intOf]; omega
        · have HF := Lib.hid hF
          have HMy := Lib.hid hMy
          clear hF hMy d0
          go_wp2_with fail
          go_roundw
          case rel => exact ⟨k + 1, by omega, by go_num, by rw [← HM2.out]; exact ⟨tv, hv, lab, HMy.out⟩, HB4.out.trans (HF.out.to_below HB4.out.size (fun _ e => e.elim)), Nat.le_trans HB3.out HF.out.size⟩
          case measure => simp [intOf]; omega
    · go_wp2
      go_ret
      exact ⟨rfl, hbw⟩

set_option maxRecDepth 100000 in
theorem lifted (os : Os) (started : os.Started) (H : Type) (enc : TypeId × Value → H) :
    ReturnsInHanded {} Try.checked os 10 .any (Rows.rankLoopsSpec.pre6 enc Try.prog Try.f10 Rows.rankLoopsRow.domain false) (Rows.rankLoopsSpec.post enc Try.prog Try.f10 false true false false) := by
  refine returnsInHanded_of_change (C := Try.checked) own started (by kernel_rfl) Try.func10
    (ChangeSpec.witness6 (enc := enc) (C := Try.checked) false ⟨#[], #[.int .u8 0, .slice none 0 0], []⟩ 8 (by kernel_rfl) (by kernel_rfl) (by kernel_rfl) (by kernel_rfl)) ?_
  intro W base args ds gs before hval0 hW hcnd _
  have hval : ∀ (j : Nat) t v, Try.f10.params[j]? = some t → args[j]? = some v → Value.okWide Try.prog W .any base t v := hval0
  have hW' := hW
  obtain ⟨p, q, hA0, hV, rfl, hfz, hnd⟩ := hW
  have hA : DataW.TrodAll enc Try.prog W 0 (fun _ => true) true Try.f10.params.toList args.toList ds p := hA0
  rw [Try.params10] at hA hval
  obtain ⟨v0, vs0, d0, ds0, p0, q0, hargs, rfl, rfl, h0, z0⟩ := trodAll_cons hA
  obtain ⟨v1, vs1, d1, ds1, p1, q1, rfl, rfl, rfl, h1, z1⟩ := trodAll_cons z0
  obtain ⟨rfl, rfl, rfl⟩ := trodAll_nil z1
  obtain rfl : args = #[v0, v1] := by cases args; simp_all
  obtain ⟨rfl, rfl⟩ := trodVars_none hV
  have k0 := h0
  have lt0 : ∀ x ∈ p0, x.block < W.heap.size := by obtain ⟨m, hm⟩ := k0; exact DataW.trod_lt m _ _ _ hm
  obtain ⟨a0, rfl, rfl, rfl, w0⟩ := open_int Try.underlying5 (hval 0 5 v0 rfl rfl) h0
  have k1 := h1
  have lt1 : ∀ x ∈ p1, x.block < W.heap.size := by obtain ⟨m, hm⟩ := k1; exact DataW.trod_lt m _ _ _ hm
  obtain ⟨A1, len1, cap1, ms1, rfl, hl1, hm1, hx1⟩ := open_moves (hval 1 22 v1 rfl rfl) h1
  clear hA0 hval0
  refine (walk a0 A1 len1 cap1 ms1 W w0 hx1 hl1 hm1).mono fun e W' ⟨he, hg⟩ => ?_
  subst he
  exact ⟨_, rfl, _, _, _, [], _, [], hW', trodAll_mk1 (shut_bool Try.underlying4 _), (trodAll_cons_mk (Below.trod laidOut (by kernel_rfl) (of_decide_eq_true (by kernel_rfl)) k0 hg lt0) (trodAll_cons_mk (Below.trod laidOut (by kernel_rfl) (of_decide_eq_true (by kernel_rfl)) k1 hg lt1) trodAll_mk0)), rfl, hg.frame _, fun h => by cases h⟩

theorem over : Rows.rankLoopsRow.holds Try.pinned (OpenSpec.ofChange Rows.rankLoopsSpec) :=
  OpenClaim.holds_of_wide 10 Try.f10 rfl rfl rfl rfl rfl rfl rfl ⟨rfl, rfl, rfl, rfl, rfl⟩ rfl rfl rfl rfl rfl (by kernel_rfl) Try.func10 (by kernel_rfl)
    (of_decide_eq_true (by kernel_rfl)) (by unfold Func.isWrapper; rw [if_neg (of_decide_eq_false (by kernel_rfl))]; exact ⟨rfl, rfl⟩)
    (fun os started H enc _ => lifted os started H enc)

theorem proved : Rows.RankLoopsSaid := over
#print axioms proved
end Go.Proofs.Ytefnjhdmpnfacaa.rankLoops
