/- For any number of waiting readings, if in each frame as many are sent as there are cells, of which those that are needed are added first, none waits after 5 frames, and after the first frame no further cells are needed. No conditions. -/
import Derived.Test.YtnlmcingbdmelaaHead
import Derived.WalkKit
import Derived.ProofKit
import Derived.OpenShut
import Derived.ShutString
namespace Go.Proofs.Ytnlmcingbdmelaa.dutyDrain
open Go.ChangeShapes Go.WideShapes Go.ChangeAt Go.RowKit
open Go.ChangeMaps (open_string shut_string)
set_option linter.unusedVariables false      -- a walk need not use every 'w<i>' (that an integer argument fits its kind)

theorem own : ownKnob Try.prog.godebug = none := by kernel_rfl

theorem drain0 (w : World) : Calls Try.prog 8 #[.int .i64 0] w fun e w' => e = .returned (.bool true) ∧ Below w.heap.size w w' := by
  have acc : Below w.heap.size w w := Below.refl _ _
  have e0 : needF 0 0 false = 0 := by decide
  go_enter Try.func8, Try.ntmps8
  go_wp2_with (go_at_call 9; (with_reducible refine (head_any _).mono ?_); rintro e w' ⟨rfl, hn⟩; replace acc := acc.trans (hn.mono acc.size); clear hn)
  refine wp_loop_rounds 6 ?_
  iterate 6
    rw [rounds_succ]
    go_wp2_with (go_at_call 10; (with_reducible refine (need_any _ _ _ _).mono ?_); rintro e w' ⟨rfl, hn⟩; replace acc := acc.trans (hn.mono acc.size); clear hn)
  go_ret
  exact ⟨rfl, acc⟩

theorem drain1 (w : World) : Calls Try.prog 8 #[.int .i64 1] w fun e w' => e = .returned (.bool true) ∧ Below w.heap.size w w' := by
  have acc : Below w.heap.size w w := Below.refl _ _
  have e0 : needF 1 0 false = 1 := by decide
  have e1 : needF 0 1 false = 0 := by decide
  go_enter Try.func8, Try.ntmps8
  go_wp2_with (go_at_call 9; (with_reducible refine (head_any _).mono ?_); rintro e w' ⟨rfl, hn⟩; replace acc := acc.trans (hn.mono acc.size); clear hn)
  refine wp_loop_rounds 6 ?_
  iterate 6
    rw [rounds_succ]
    go_wp2_with (go_at_call 10; (with_reducible refine (need_any _ _ _ _).mono ?_); rintro e w' ⟨rfl, hn⟩; replace acc := acc.trans (hn.mono acc.size); clear hn)
  go_ret
  exact ⟨rfl, acc⟩

theorem drain2 (w : World) : Calls Try.prog 8 #[.int .i64 2] w fun e w' => e = .returned (.bool true) ∧ Below w.heap.size w w' := by
  have acc : Below w.heap.size w w := Below.refl _ _
  have e0 : needF 2 0 false = 1 := by decide
  have e1 : needF 1 1 false = 0 := by decide
  have e2 : needF 0 1 false = 0 := by decide
  go_enter Try.func8, Try.ntmps8
  go_wp2_with (go_at_call 9; (with_reducible refine (head_any _).mono ?_); rintro e w' ⟨rfl, hn⟩; replace acc := acc.trans (hn.mono acc.size); clear hn)
  refine wp_loop_rounds 6 ?_
  iterate 6
    rw [rounds_succ]
    go_wp2_with (go_at_call 10; (with_reducible refine (need_any _ _ _ _).mono ?_); rintro e w' ⟨rfl, hn⟩; replace acc := acc.trans (hn.mono acc.size); clear hn)
  go_ret
  exact ⟨rfl, acc⟩

theorem drain3 (w : World) : Calls Try.prog 8 #[.int .i64 3] w fun e w' => e = .returned (.bool true) ∧ Below w.heap.size w w' := by
  have acc : Below w.heap.size w w := Below.refl _ _
  have e0 : needF 3 0 false = 2 := by decide
  have e1 : needF 1 2 false = 0 := by decide
  have e2 : needF 0 2 false = 0 := by decide
  go_enter Try.func8, Try.ntmps8
  go_wp2_with (go_at_call 9; (with_reducible refine (head_any _).mono ?_); rintro e w' ⟨rfl, hn⟩; replace acc := acc.trans (hn.mono acc.size); clear hn)
  refine wp_loop_rounds 6 ?_
  iterate 6
    rw [rounds_succ]
    go_wp2_with (go_at_call 10; (with_reducible refine (need_any _ _ _ _).mono ?_); rintro e w' ⟨rfl, hn⟩; replace acc := acc.trans (hn.mono acc.size); clear hn)
  go_ret
  exact ⟨rfl, acc⟩

theorem drain4 (w : World) : Calls Try.prog 8 #[.int .i64 4] w fun e w' => e = .returned (.bool true) ∧ Below w.heap.size w w' := by
  have acc : Below w.heap.size w w := Below.refl _ _
  have e0 : needF 4 0 false = 2 := by decide
  have e1 : needF 2 2 false = 0 := by decide
  have e2 : needF 0 2 false = 0 := by decide
  go_enter Try.func8, Try.ntmps8
  go_wp2_with (go_at_call 9; (with_reducible refine (head_any _).mono ?_); rintro e w' ⟨rfl, hn⟩; replace acc := acc.trans (hn.mono acc.size); clear hn)
  refine wp_loop_rounds 6 ?_
  iterate 6
    rw [rounds_succ]
    go_wp2_with (go_at_call 10; (with_reducible refine (need_any _ _ _ _).mono ?_); rintro e w' ⟨rfl, hn⟩; replace acc := acc.trans (hn.mono acc.size); clear hn)
  go_ret
  exact ⟨rfl, acc⟩

theorem drain5 (w : World) : Calls Try.prog 8 #[.int .i64 5] w fun e w' => e = .returned (.bool true) ∧ Below w.heap.size w w' := by
  have acc : Below w.heap.size w w := Below.refl _ _
  have e0 : needF 5 0 false = 3 := by decide
  have e1 : needF 2 3 false = 0 := by decide
  have e2 : needF 0 3 false = 0 := by decide
  go_enter Try.func8, Try.ntmps8
  go_wp2_with (go_at_call 9; (with_reducible refine (head_any _).mono ?_); rintro e w' ⟨rfl, hn⟩; replace acc := acc.trans (hn.mono acc.size); clear hn)
  refine wp_loop_rounds 6 ?_
  iterate 6
    rw [rounds_succ]
    go_wp2_with (go_at_call 10; (with_reducible refine (need_any _ _ _ _).mono ?_); rintro e w' ⟨rfl, hn⟩; replace acc := acc.trans (hn.mono acc.size); clear hn)
  go_ret
  exact ⟨rfl, acc⟩

theorem drain6 (w : World) : Calls Try.prog 8 #[.int .i64 6] w fun e w' => e = .returned (.bool true) ∧ Below w.heap.size w w' := by
  have acc : Below w.heap.size w w := Below.refl _ _
  have e0 : needF 6 0 false = 3 := by decide
  have e1 : needF 3 3 false = 0 := by decide
  have e2 : needF 0 3 false = 0 := by decide
  go_enter Try.func8, Try.ntmps8
  go_wp2_with (go_at_call 9; (with_reducible refine (head_any _).mono ?_); rintro e w' ⟨rfl, hn⟩; replace acc := acc.trans (hn.mono acc.size); clear hn)
  refine wp_loop_rounds 6 ?_
  iterate 6
    rw [rounds_succ]
    go_wp2_with (go_at_call 10; (with_reducible refine (need_any _ _ _ _).mono ?_); rintro e w' ⟨rfl, hn⟩; replace acc := acc.trans (hn.mono acc.size); clear hn)
  go_ret
  exact ⟨rfl, acc⟩

theorem drain7 (w : World) : Calls Try.prog 8 #[.int .i64 7] w fun e w' => e = .returned (.bool true) ∧ Below w.heap.size w w' := by
  have acc : Below w.heap.size w w := Below.refl _ _
  have e0 : needF 7 0 false = 4 := by decide
  have e1 : needF 3 4 false = 0 := by decide
  have e2 : needF 0 4 false = 0 := by decide
  go_enter Try.func8, Try.ntmps8
  go_wp2_with (go_at_call 9; (with_reducible refine (head_any _).mono ?_); rintro e w' ⟨rfl, hn⟩; replace acc := acc.trans (hn.mono acc.size); clear hn)
  refine wp_loop_rounds 6 ?_
  iterate 6
    rw [rounds_succ]
    go_wp2_with (go_at_call 10; (with_reducible refine (need_any _ _ _ _).mono ?_); rintro e w' ⟨rfl, hn⟩; replace acc := acc.trans (hn.mono acc.size); clear hn)
  go_ret
  exact ⟨rfl, acc⟩

theorem drain8 (w : World) : Calls Try.prog 8 #[.int .i64 8] w fun e w' => e = .returned (.bool true) ∧ Below w.heap.size w w' := by
  have acc : Below w.heap.size w w := Below.refl _ _
  have e0 : needF 8 0 false = 4 := by decide
  have e1 : needF 4 4 false = 0 := by decide
  have e2 : needF 0 4 false = 0 := by decide
  go_enter Try.func8, Try.ntmps8
  go_wp2_with (go_at_call 9; (with_reducible refine (head_any _).mono ?_); rintro e w' ⟨rfl, hn⟩; replace acc := acc.trans (hn.mono acc.size); clear hn)
  refine wp_loop_rounds 6 ?_
  iterate 6
    rw [rounds_succ]
    go_wp2_with (go_at_call 10; (with_reducible refine (need_any _ _ _ _).mono ?_); rintro e w' ⟨rfl, hn⟩; replace acc := acc.trans (hn.mono acc.size); clear hn)
  go_ret
  exact ⟨rfl, acc⟩

theorem drain9 (w : World) : Calls Try.prog 8 #[.int .i64 9] w fun e w' => e = .returned (.bool true) ∧ Below w.heap.size w w' := by
  have acc : Below w.heap.size w w := Below.refl _ _
  have e0 : needF 9 0 false = 5 := by decide
  have e1 : needF 4 5 false = 0 := by decide
  have e2 : needF 0 5 false = 0 := by decide
  go_enter Try.func8, Try.ntmps8
  go_wp2_with (go_at_call 9; (with_reducible refine (head_any _).mono ?_); rintro e w' ⟨rfl, hn⟩; replace acc := acc.trans (hn.mono acc.size); clear hn)
  refine wp_loop_rounds 6 ?_
  iterate 6
    rw [rounds_succ]
    go_wp2_with (go_at_call 10; (with_reducible refine (need_any _ _ _ _).mono ?_); rintro e w' ⟨rfl, hn⟩; replace acc := acc.trans (hn.mono acc.size); clear hn)
  go_ret
  exact ⟨rfl, acc⟩

theorem drain10 (w : World) : Calls Try.prog 8 #[.int .i64 10] w fun e w' => e = .returned (.bool true) ∧ Below w.heap.size w w' := by
  have acc : Below w.heap.size w w := Below.refl _ _
  have e0 : needF 10 0 false = 5 := by decide
  have e1 : needF 5 5 false = 0 := by decide
  have e2 : needF 0 5 false = 0 := by decide
  go_enter Try.func8, Try.ntmps8
  go_wp2_with (go_at_call 9; (with_reducible refine (head_any _).mono ?_); rintro e w' ⟨rfl, hn⟩; replace acc := acc.trans (hn.mono acc.size); clear hn)
  refine wp_loop_rounds 6 ?_
  iterate 6
    rw [rounds_succ]
    go_wp2_with (go_at_call 10; (with_reducible refine (need_any _ _ _ _).mono ?_); rintro e w' ⟨rfl, hn⟩; replace acc := acc.trans (hn.mono acc.size); clear hn)
  go_ret
  exact ⟨rfl, acc⟩

theorem drain11 (w : World) : Calls Try.prog 8 #[.int .i64 11] w fun e w' => e = .returned (.bool true) ∧ Below w.heap.size w w' := by
  have acc : Below w.heap.size w w := Below.refl _ _
  have e0 : needF 11 0 false = 6 := by decide
  have e1 : needF 5 6 false = 0 := by decide
  have e2 : needF 0 6 false = 0 := by decide
  go_enter Try.func8, Try.ntmps8
  go_wp2_with (go_at_call 9; (with_reducible refine (head_any _).mono ?_); rintro e w' ⟨rfl, hn⟩; replace acc := acc.trans (hn.mono acc.size); clear hn)
  refine wp_loop_rounds 6 ?_
  iterate 6
    rw [rounds_succ]
    go_wp2_with (go_at_call 10; (with_reducible refine (need_any _ _ _ _).mono ?_); rintro e w' ⟨rfl, hn⟩; replace acc := acc.trans (hn.mono acc.size); clear hn)
  go_ret
  exact ⟨rfl, acc⟩

theorem drain12 (w : World) : Calls Try.prog 8 #[.int .i64 12] w fun e w' => e = .returned (.bool true) ∧ Below w.heap.size w w' := by
  have acc : Below w.heap.size w w := Below.refl _ _
  have e0 : needF 12 0 false = 6 := by decide
  have e1 : needF 6 6 false = 0 := by decide
  have e2 : needF 0 6 false = 0 := by decide
  go_enter Try.func8, Try.ntmps8
  go_wp2_with (go_at_call 9; (with_reducible refine (head_any _).mono ?_); rintro e w' ⟨rfl, hn⟩; replace acc := acc.trans (hn.mono acc.size); clear hn)
  refine wp_loop_rounds 6 ?_
  iterate 6
    rw [rounds_succ]
    go_wp2_with (go_at_call 10; (with_reducible refine (need_any _ _ _ _).mono ?_); rintro e w' ⟨rfl, hn⟩; replace acc := acc.trans (hn.mono acc.size); clear hn)
  go_ret
  exact ⟨rfl, acc⟩

theorem drain13 (w : World) : Calls Try.prog 8 #[.int .i64 13] w fun e w' => e = .returned (.bool true) ∧ Below w.heap.size w w' := by
  have acc : Below w.heap.size w w := Below.refl _ _
  have e0 : needF 13 0 false = 6 := by decide
  have e1 : needF 7 6 false = 0 := by decide
  have e2 : needF 1 6 false = 0 := by decide
  have e3 : needF 0 6 false = 0 := by decide
  go_enter Try.func8, Try.ntmps8
  go_wp2_with (go_at_call 9; (with_reducible refine (head_any _).mono ?_); rintro e w' ⟨rfl, hn⟩; replace acc := acc.trans (hn.mono acc.size); clear hn)
  refine wp_loop_rounds 6 ?_
  iterate 6
    rw [rounds_succ]
    go_wp2_with (go_at_call 10; (with_reducible refine (need_any _ _ _ _).mono ?_); rintro e w' ⟨rfl, hn⟩; replace acc := acc.trans (hn.mono acc.size); clear hn)
  go_ret
  exact ⟨rfl, acc⟩

theorem drain14 (w : World) : Calls Try.prog 8 #[.int .i64 14] w fun e w' => e = .returned (.bool true) ∧ Below w.heap.size w w' := by
  have acc : Below w.heap.size w w := Below.refl _ _
  have e0 : needF 14 0 false = 6 := by decide
  have e1 : needF 8 6 false = 0 := by decide
  have e2 : needF 2 6 false = 0 := by decide
  have e3 : needF 0 6 false = 0 := by decide
  go_enter Try.func8, Try.ntmps8
  go_wp2_with (go_at_call 9; (with_reducible refine (head_any _).mono ?_); rintro e w' ⟨rfl, hn⟩; replace acc := acc.trans (hn.mono acc.size); clear hn)
  refine wp_loop_rounds 6 ?_
  iterate 6
    rw [rounds_succ]
    go_wp2_with (go_at_call 10; (with_reducible refine (need_any _ _ _ _).mono ?_); rintro e w' ⟨rfl, hn⟩; replace acc := acc.trans (hn.mono acc.size); clear hn)
  go_ret
  exact ⟨rfl, acc⟩

theorem drain15 (w : World) : Calls Try.prog 8 #[.int .i64 15] w fun e w' => e = .returned (.bool true) ∧ Below w.heap.size w w' := by
  have acc : Below w.heap.size w w := Below.refl _ _
  have e0 : needF 15 0 false = 6 := by decide
  have e1 : needF 9 6 false = 0 := by decide
  have e2 : needF 3 6 false = 0 := by decide
  have e3 : needF 0 6 false = 0 := by decide
  go_enter Try.func8, Try.ntmps8
  go_wp2_with (go_at_call 9; (with_reducible refine (head_any _).mono ?_); rintro e w' ⟨rfl, hn⟩; replace acc := acc.trans (hn.mono acc.size); clear hn)
  refine wp_loop_rounds 6 ?_
  iterate 6
    rw [rounds_succ]
    go_wp2_with (go_at_call 10; (with_reducible refine (need_any _ _ _ _).mono ?_); rintro e w' ⟨rfl, hn⟩; replace acc := acc.trans (hn.mono acc.size); clear hn)
  go_ret
  exact ⟨rfl, acc⟩

theorem drain16 (w : World) : Calls Try.prog 8 #[.int .i64 16] w fun e w' => e = .returned (.bool true) ∧ Below w.heap.size w w' := by
  have acc : Below w.heap.size w w := Below.refl _ _
  have e0 : needF 16 0 false = 6 := by decide
  have e1 : needF 10 6 false = 0 := by decide
  have e2 : needF 4 6 false = 0 := by decide
  have e3 : needF 0 6 false = 0 := by decide
  go_enter Try.func8, Try.ntmps8
  go_wp2_with (go_at_call 9; (with_reducible refine (head_any _).mono ?_); rintro e w' ⟨rfl, hn⟩; replace acc := acc.trans (hn.mono acc.size); clear hn)
  refine wp_loop_rounds 6 ?_
  iterate 6
    rw [rounds_succ]
    go_wp2_with (go_at_call 10; (with_reducible refine (need_any _ _ _ _).mono ?_); rintro e w' ⟨rfl, hn⟩; replace acc := acc.trans (hn.mono acc.size); clear hn)
  go_ret
  exact ⟨rfl, acc⟩

theorem walk (a0 : Int) (w0 : (Lit.int .i64 a0).wf = true) (w : World) :
    Calls Try.prog 8 #[.int .i64 a0] w fun e w' => e = .returned (.bool true) ∧ Below w.heap.size w w' := by
  by_cases h : a0 < 0 ∨ 16 < a0
  · have acc : Below w.heap.size w w := Below.refl _ _
    rcases h with h | h
    all_goals
      go_enter Try.func8, Try.ntmps8
      go_wp2_with (go_at_call 9; (with_reducible refine (head_any _).mono ?_); rintro e w' ⟨rfl, hn⟩; replace acc := acc.trans (hn.mono acc.size); clear hn)
      go_ret
      exact ⟨rfl, acc⟩
  · have h' : a0 = 0 ∨ a0 = 1 ∨ a0 = 2 ∨ a0 = 3 ∨ a0 = 4 ∨ a0 = 5 ∨ a0 = 6 ∨ a0 = 7 ∨ a0 = 8 ∨ a0 = 9 ∨ a0 = 10 ∨ a0 = 11 ∨ a0 = 12 ∨ a0 = 13 ∨ a0 = 14 ∨ a0 = 15 ∨ a0 = 16 := by omega
    clear w0 h
    rcases h' with rfl | rfl | rfl | rfl | rfl | rfl | rfl | rfl | rfl | rfl | rfl | rfl | rfl | rfl | rfl | rfl | rfl
    · exact drain0 w
    · exact drain1 w
    · exact drain2 w
    · exact drain3 w
    · exact drain4 w
    · exact drain5 w
    · exact drain6 w
    · exact drain7 w
    · exact drain8 w
    · exact drain9 w
    · exact drain10 w
    · exact drain11 w
    · exact drain12 w
    · exact drain13 w
    · exact drain14 w
    · exact drain15 w
    · exact drain16 w

set_option maxRecDepth 100000 in
theorem lifted (os : Os) (started : os.Started) (H : Type) (enc : TypeId × Value → H) :
    ReturnsInHanded {} Try.checked os 8 .any (Rows.dutyDrainSpec.pre6 enc Try.prog Try.f8 Rows.dutyDrainRow.domain false) (Rows.dutyDrainSpec.post enc Try.prog Try.f8 false true false false) := by
  refine returnsInHanded_of_change (C := Try.checked) own started (by kernel_rfl) Try.func8
    (ChangeSpec.witness6 (enc := enc) (C := Try.checked) false ⟨#[], #[.int .i64 0], []⟩ 8 (by kernel_rfl) (by kernel_rfl) (by kernel_rfl) (by kernel_rfl)) ?_
  intro W base args ds gs before hval0 hW hcnd _
  have hval : ∀ (j : Nat) t v, Try.f8.params[j]? = some t → args[j]? = some v → Value.okWide Try.prog W .any base t v := hval0
  have hW' := hW
  obtain ⟨p, q, hA0, hV, rfl, hfz, hnd⟩ := hW
  have hA : DataW.TrodAll enc Try.prog W 0 (fun _ => true) true Try.f8.params.toList args.toList ds p := hA0
  rw [Try.params8] at hA hval
  obtain ⟨v0, vs0, d0, ds0, p0, q0, hargs, rfl, rfl, h0, r0⟩ := trodAll_cons hA
  obtain ⟨rfl, rfl, rfl⟩ := trodAll_nil r0
  obtain rfl : args = #[v0] := by cases args; simp_all
  obtain ⟨rfl, rfl⟩ := trodVars_none hV
  obtain ⟨a0, rfl, rfl, rfl, w0⟩ := open_int Try.underlying3 (hval 0 3 v0 rfl rfl) h0
  clear hA0 hval0
  simp only [List.append_nil] at hW'
  refine (walk a0 w0 W).mono fun e W' ⟨he, hg⟩ => ?_
  subst he
  exact ⟨_, rfl, post_of_below (pa := []) (pv := []) hW' (fun _ _ _ => (trodAll_cons_mk (shut_bool Try.underlying4 _) trodAll_mk0)) (fun sp _ => (trodAll_cons_mk (shut_int Try.underlying3 w0) trodAll_mk0)) (fun _ _ => rfl) rfl
    hg (ok_one (by kernel_rfl) rfl (okWide_bool_mk Try.underlying4 _))⟩

theorem over : Rows.dutyDrainRow.holds Try.pinned (OpenSpec.ofChange Rows.dutyDrainSpec) :=
  OpenClaim.holds_of_wide 8 Try.f8 rfl rfl rfl rfl rfl rfl rfl ⟨rfl, rfl, rfl, rfl, rfl⟩ rfl rfl rfl rfl rfl (by kernel_rfl) Try.func8 (by kernel_rfl)
    (of_decide_eq_true (by kernel_rfl)) (by unfold Func.isWrapper; first | (rw [if_pos (by decide +kernel)]; kernel_rfl) | (rw [if_neg (by decide +kernel)]; exact ⟨rfl, rfl⟩))
    (fun os started H enc _ => lifted os started H enc)

theorem proved : Rows.DutyDrainSaid :=
  over
#print axioms proved
end Go.Proofs.Ytnlmcingbdmelaa.dutyDrain
