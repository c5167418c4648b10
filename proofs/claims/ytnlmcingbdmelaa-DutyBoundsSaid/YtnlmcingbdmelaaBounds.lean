/- For right numbers: a node that asks has at most 6 cells afterwards; it gives back at most what it has, and nothing unless at least 4 frames were idle. No conditions. -/
import Derived.Test.YtnlmcingbdmelaaHead
import Derived.WalkKit
import Derived.ProofKit
import Derived.OpenShut
import Derived.ShutString
namespace Go.Proofs.Ytnlmcingbdmelaa.dutyBounds
open Go.ChangeShapes Go.WideShapes Go.ChangeAt Go.RowKit
open Go.ChangeMaps (open_string shut_string)
set_option linter.unusedVariables false      -- a walk need not use every 'w<i>' (that an integer argument fits its kind)

theorem own : ownKnob Try.prog.godebug = none := by kernel_rfl

theorem bounds {n c i : Int} (h : rightB n c = true) :
    (needF n c false = 0 ∨ c + needF n c false ≤ 6) ∧ spareF n c i ≤ c ∧ (4 ≤ i ∨ spareF n c i = 0) := by
  have hb := right_bd h
  rw [need_right h, spare_right h, if_pos rfl]
  unfold want
  split <;> omega

theorem walk (a0 : Int) (a1 : Int) (a2 : Int) (w0 : (Lit.int .i64 a0).wf = true) (w1 : (Lit.int .i64 a1).wf = true) (w2 : (Lit.int .i64 a2).wf = true) (w : World) :
    Calls Try.prog 7 #[.int .i64 a0, .int .i64 a1, .int .i64 a2] w fun e w' => e = .returned (.bool true) ∧ Below w.heap.size w w' := by
  have acc : Below w.heap.size w w := Below.refl _ _
  by_cases hR : rightB a0 a1 = true
  · obtain ⟨b0, b1, b2, b3⟩ := right_bd hR
    obtain ⟨n1, n2⟩ := need_lo a0 a1 false
    obtain ⟨s1, s2⟩ := spare_lo a0 a1 a2
    obtain ⟨e1, e2, e3⟩ := bounds (i := a2) hR
    obtain ⟨r1, h1⟩ : ∃ r, r = needF a0 a1 false := ⟨_, rfl⟩
    obtain ⟨r2, h2⟩ : ∃ r, r = spareF a0 a1 a2 := ⟨_, rfl⟩
    rw [← h1] at n1 n2 e1
    rw [← h2] at s1 s2 e2 e3
    have H1 := Lib.hid h1
    have H2 := Lib.hid h2
    clear h1 h2
    have E1 := Lib.hid e1
    have E3 := Lib.hid e3
    clear e1 e3
    by_cases z1 : r1 = 0 <;> by_cases z2 : r2 = 0 <;> by_cases z3 : 4 ≤ a2
    all_goals
      first
      | exact absurd E3.out (by omega)
      | (have f1 : (r1 == 0) = decide (r1 = 0) := rfl
         have f2 : (r2 == 0) = decide (r2 = 0) := rfl
         first | rw [decide_eq_true z1] at f1 | rw [decide_eq_false z1] at f1
         first | rw [decide_eq_true z2] at f2 | rw [decide_eq_false z2] at f2
         first | have z4 : decide (4 ≤ a2) = true := decide_eq_true z3 | have z4 : decide (4 ≤ a2) = false := decide_eq_false z3
         first | have z5 : r1 + a1 ≤ 6 := by rcases E1.out with h | h <;> omega
               | have z5 := True.intro
         clear z1 z2 z3
         go_enter Try.func7, Try.ntmps7
         go_wp2_with (first
           | (go_at_call 9; (with_reducible refine (head_any _).mono ?_); rintro e w' ⟨rfl, hn⟩; replace acc := acc.trans (hn.mono acc.size); clear hn)
           | (go_at_call 14; (with_reducible refine (right_any _ _ _).mono ?_); rintro e w' ⟨rfl, rfl⟩)
           | (go_at_call 10; (with_reducible refine (need_is a0 a1 false r1 _ H1.out).mono ?_); rintro e w' ⟨rfl, hn⟩; replace acc := acc.trans (hn.mono acc.size); clear hn)
           | (go_at_call 12; (with_reducible refine (spare_is a0 a1 a2 r2 _ H2.out).mono ?_); rintro e w' ⟨rfl, hn⟩; replace acc := acc.trans (hn.mono acc.size); clear hn))
         go_ret
         exact ⟨rfl, acc⟩)
  · have hR : rightB a0 a1 = false := by simpa using hR
    go_enter Try.func7, Try.ntmps7
    go_wp2_with (first
      | (go_at_call 9; (with_reducible refine (head_any _).mono ?_); rintro e w' ⟨rfl, hn⟩; replace acc := acc.trans (hn.mono acc.size); clear hn)
      | (go_at_call 14; (with_reducible refine (right_any _ _ _).mono ?_); rintro e w' ⟨rfl, rfl⟩))
    go_ret
    exact ⟨rfl, acc⟩

set_option maxRecDepth 100000 in
theorem lifted (os : Os) (started : os.Started) (H : Type) (enc : TypeId × Value → H) :
    ReturnsInHanded {} Try.checked os 7 .any (Rows.dutyBoundsSpec.pre6 enc Try.prog Try.f7 Rows.dutyBoundsRow.domain false) (Rows.dutyBoundsSpec.post enc Try.prog Try.f7 false true false false) := by
  refine returnsInHanded_of_change (C := Try.checked) own started (by kernel_rfl) Try.func7
    (ChangeSpec.witness6 (enc := enc) (C := Try.checked) false ⟨#[], #[.int .i64 0, .int .i64 0, .int .i64 0], []⟩ 8 (by kernel_rfl) (by kernel_rfl) (by kernel_rfl) (by kernel_rfl)) ?_
  intro W base args ds gs before hval0 hW hcnd _
  have hval : ∀ (j : Nat) t v, Try.f7.params[j]? = some t → args[j]? = some v → Value.okWide Try.prog W .any base t v := hval0
  have hW' := hW
  obtain ⟨p, q, hA0, hV, rfl, hfz, hnd⟩ := hW
  have hA : DataW.TrodAll enc Try.prog W 0 (fun _ => true) true Try.f7.params.toList args.toList ds p := hA0
  rw [Try.params7] at hA hval
  obtain ⟨v0, vs0, d0, ds0, p0, q0, hargs, rfl, rfl, h0, r0⟩ := trodAll_cons hA
  obtain ⟨v1, vs1, d1, ds1, p1, q1, rfl, rfl, rfl, h1, r1⟩ := trodAll_cons r0
  obtain ⟨v2, vs2, d2, ds2, p2, q2, rfl, rfl, rfl, h2, r2⟩ := trodAll_cons r1
  obtain ⟨rfl, rfl, rfl⟩ := trodAll_nil r2
  obtain rfl : args = #[v0, v1, v2] := by cases args; simp_all
  obtain ⟨rfl, rfl⟩ := trodVars_none hV
  obtain ⟨a0, rfl, rfl, rfl, w0⟩ := open_int Try.underlying3 (hval 0 3 v0 rfl rfl) h0
  obtain ⟨a1, rfl, rfl, rfl, w1⟩ := open_int Try.underlying3 (hval 1 3 v1 rfl rfl) h1
  obtain ⟨a2, rfl, rfl, rfl, w2⟩ := open_int Try.underlying3 (hval 2 3 v2 rfl rfl) h2
  clear hA0 hval0
  simp only [List.append_nil] at hW'
  refine (walk a0 a1 a2 w0 w1 w2 W).mono fun e W' ⟨he, hg⟩ => ?_
  subst he
  exact ⟨_, rfl, post_of_below (pa := []) (pv := []) hW' (fun _ _ _ => (trodAll_cons_mk (shut_bool Try.underlying4 _) trodAll_mk0)) (fun sp _ => (trodAll_cons_mk (shut_int Try.underlying3 w0) (trodAll_cons_mk (shut_int Try.underlying3 w1) (trodAll_cons_mk (shut_int Try.underlying3 w2) trodAll_mk0)))) (fun _ _ => rfl) rfl
    hg (ok_one (by kernel_rfl) rfl (okWide_bool_mk Try.underlying4 _))⟩

theorem over : Rows.dutyBoundsRow.holds Try.pinned (OpenSpec.ofChange Rows.dutyBoundsSpec) :=
  OpenClaim.holds_of_wide 7 Try.f7 rfl rfl rfl rfl rfl rfl rfl ⟨rfl, rfl, rfl, rfl, rfl⟩ rfl rfl rfl rfl rfl (by kernel_rfl) Try.func7 (by kernel_rfl)
    (of_decide_eq_true (by kernel_rfl)) (by unfold Func.isWrapper; first | (rw [if_pos (by decide +kernel)]; kernel_rfl) | (rw [if_neg (by decide +kernel)]; exact ⟨rfl, rfl⟩))
    (fun os started H enc _ => lifted os started H enc)

theorem proved : Rows.DutyBoundsSaid :=
  over
#print axioms proved
end Go.Proofs.Ytnlmcingbdmelaa.dutyBounds
