/- For right numbers, with more waiting readings a node needs at least as many cells and gives back at most as many; one more reading changes either by at most 1. No conditions. -/
import Derived.Test.YtnlmcingbdmelaaHead
import Derived.WalkKit
import Derived.ProofKit
import Derived.OpenShut
import Derived.ShutString
namespace Go.Proofs.Ytnlmcingbdmelaa.dutyMore
open Go.ChangeShapes Go.WideShapes Go.ChangeAt Go.RowKit
open Go.ChangeMaps (open_string shut_string)
set_option linter.unusedVariables false      -- a walk need not use every 'w<i>' (that an integer argument fits its kind)

theorem own : ownKnob Try.prog.godebug = none := by kernel_rfl

theorem more_ {n c i k : Int} {full : Bool} (h : rightB n c = true) (h0 : 0 ≤ k) (h1 : k ≤ 16 - n) :
    needF n c full ≤ needF (n + k) c full ∧ spareF (n + k) c i ≤ spareF n c i ∧ (1 < k ∨ (needF (n + k) c full - needF n c full ≤ 1 ∧ spareF n c i - spareF (n + k) c i ≤ 1)) := by
  have hb := right_bd h
  have h2 : rightB (n + k) c = true := right_mk (by omega)
  rw [need_right h, spare_right h, need_right h2, spare_right h2]
  unfold want
  cases full <;> simp only [if_true, if_false, reduceCtorEq] <;> split <;> omega

theorem walk (a0 : Int) (a1 : Int) (a2 : Int) (a3 : Int) (a4 : Bool) (w0 : (Lit.int .i64 a0).wf = true) (w1 : (Lit.int .i64 a1).wf = true) (w2 : (Lit.int .i64 a2).wf = true) (w3 : (Lit.int .i64 a3).wf = true) (w : World) :
    Calls Try.prog 6 #[.int .i64 a0, .int .i64 a1, .int .i64 a2, .int .i64 a3, .bool a4] w fun e w' => e = .returned (.bool true) ∧ Below w.heap.size w w' := by
  have acc : Below w.heap.size w w := Below.refl _ _
  by_cases hR : rightB a0 a1 = true
  · obtain ⟨b0, b1, b2, b3⟩ := right_bd hR
    by_cases k0 : a3 < 0
    · go_enter Try.func6, Try.ntmps6
      go_wp2_with (first
        | (go_at_call 9; (with_reducible refine (head_any _).mono ?_); rintro e w' ⟨rfl, hn⟩; replace acc := acc.trans (hn.mono acc.size); clear hn)
        | (go_at_call 14; (with_reducible refine (right_any _ _ _).mono ?_); rintro e w' ⟨rfl, rfl⟩))
      go_ret
      exact ⟨rfl, acc⟩
    · by_cases k1 : 16 - a0 < a3
      · go_enter Try.func6, Try.ntmps6
        go_wp2_with (first
          | (go_at_call 9; (with_reducible refine (head_any _).mono ?_); rintro e w' ⟨rfl, hn⟩; replace acc := acc.trans (hn.mono acc.size); clear hn)
          | (go_at_call 14; (with_reducible refine (right_any _ _ _).mono ?_); rintro e w' ⟨rfl, rfl⟩))
        go_ret
        exact ⟨rfl, acc⟩
      · obtain ⟨e1, e2, e3⟩ := more_ (i := a2) (k := a3) (full := a4) hR (by omega) (by omega)
        obtain ⟨n1, n2⟩ := need_lo a0 a1 a4
        obtain ⟨n3, n4⟩ := need_lo (a0 + a3) a1 a4
        obtain ⟨s1, s2⟩ := spare_lo a0 a1 a2
        obtain ⟨s3, s4⟩ := spare_lo (a0 + a3) a1 a2
        obtain ⟨r1, h1⟩ : ∃ r, r = needF a0 a1 a4 := ⟨_, rfl⟩
        obtain ⟨r2, h2⟩ : ∃ r, r = needF (a0 + a3) a1 a4 := ⟨_, rfl⟩
        obtain ⟨r3, h3⟩ : ∃ r, r = spareF a0 a1 a2 := ⟨_, rfl⟩
        obtain ⟨r4, h4⟩ : ∃ r, r = spareF (a0 + a3) a1 a2 := ⟨_, rfl⟩
        rw [← h1] at n1 n2 e1 e3
        rw [← h2] at n3 n4 e1 e3
        rw [← h3] at s1 s2 e2 e3
        rw [← h4] at s3 s4 e2 e3
        have H1 := Lib.hid h1
        have H2 := Lib.hid h2
        have H3 := Lib.hid h3
        have H4 := Lib.hid h4
        have E3 := Lib.hid e3
        clear h1 h2 h3 h4 e3
        by_cases z : 1 < a3
        · have z' : decide (1 < a3) = true := decide_eq_true z
          clear z
          go_enter Try.func6, Try.ntmps6
          go_wp2_with (first
            | (go_at_call 9; (with_reducible refine (head_any _).mono ?_); rintro e w' ⟨rfl, hn⟩; replace acc := acc.trans (hn.mono acc.size); clear hn)
            | (go_at_call 14; (with_reducible refine (right_any _ _ _).mono ?_); rintro e w' ⟨rfl, rfl⟩)
            | (go_at_call 10; (with_reducible first | refine (need_is a0 a1 a4 r1 _ H1.out).mono ?_ | refine (need_is (a0 + a3) a1 a4 r2 _ H2.out).mono ?_); rintro e w' ⟨rfl, hn⟩; replace acc := acc.trans (hn.mono acc.size); clear hn)
            | (go_at_call 12; (with_reducible first | refine (spare_is a0 a1 a2 r3 _ H3.out).mono ?_ | refine (spare_is (a0 + a3) a1 a2 r4 _ H4.out).mono ?_); rintro e w' ⟨rfl, hn⟩; replace acc := acc.trans (hn.mono acc.size); clear hn))
          go_ret
          exact ⟨rfl, acc⟩
        · have z' : decide (1 < a3) = false := decide_eq_false z
          have z1 : r2 - r1 ≤ 1 := by rcases E3.out with h | h <;> omega
          have z2 : r3 - r4 ≤ 1 := by rcases E3.out with h | h <;> omega
          clear z
          go_enter Try.func6, Try.ntmps6
          go_wp2_with (first
            | (go_at_call 9; (with_reducible refine (head_any _).mono ?_); rintro e w' ⟨rfl, hn⟩; replace acc := acc.trans (hn.mono acc.size); clear hn)
            | (go_at_call 14; (with_reducible refine (right_any _ _ _).mono ?_); rintro e w' ⟨rfl, rfl⟩)
            | (go_at_call 10; (with_reducible first | refine (need_is a0 a1 a4 r1 _ H1.out).mono ?_ | refine (need_is (a0 + a3) a1 a4 r2 _ H2.out).mono ?_); rintro e w' ⟨rfl, hn⟩; replace acc := acc.trans (hn.mono acc.size); clear hn)
            | (go_at_call 12; (with_reducible first | refine (spare_is a0 a1 a2 r3 _ H3.out).mono ?_ | refine (spare_is (a0 + a3) a1 a2 r4 _ H4.out).mono ?_); rintro e w' ⟨rfl, hn⟩; replace acc := acc.trans (hn.mono acc.size); clear hn))
          go_ret
          exact ⟨rfl, acc⟩
  · have hR : rightB a0 a1 = false := by simpa using hR
    go_enter Try.func6, Try.ntmps6
    go_wp2_with (first
      | (go_at_call 9; (with_reducible refine (head_any _).mono ?_); rintro e w' ⟨rfl, hn⟩; replace acc := acc.trans (hn.mono acc.size); clear hn)
      | (go_at_call 14; (with_reducible refine (right_any _ _ _).mono ?_); rintro e w' ⟨rfl, rfl⟩))
    go_ret
    exact ⟨rfl, acc⟩

set_option maxRecDepth 100000 in
theorem lifted (os : Os) (started : os.Started) (H : Type) (enc : TypeId × Value → H) :
    ReturnsInHanded {} Try.checked os 6 .any (Rows.dutyMoreSpec.pre6 enc Try.prog Try.f6 Rows.dutyMoreRow.domain false) (Rows.dutyMoreSpec.post enc Try.prog Try.f6 false true false false) := by
  refine returnsInHanded_of_change (C := Try.checked) own started (by kernel_rfl) Try.func6
    (ChangeSpec.witness6 (enc := enc) (C := Try.checked) false ⟨#[], #[.int .i64 0, .int .i64 0, .int .i64 0, .int .i64 0, .bool false], []⟩ 8 (by kernel_rfl) (by kernel_rfl) (by kernel_rfl) (by kernel_rfl)) ?_
  intro W base args ds gs before hval0 hW hcnd _
  have hval : ∀ (j : Nat) t v, Try.f6.params[j]? = some t → args[j]? = some v → Value.okWide Try.prog W .any base t v := hval0
  have hW' := hW
  obtain ⟨p, q, hA0, hV, rfl, hfz, hnd⟩ := hW
  have hA : DataW.TrodAll enc Try.prog W 0 (fun _ => true) true Try.f6.params.toList args.toList ds p := hA0
  rw [Try.params6] at hA hval
  obtain ⟨v0, vs0, d0, ds0, p0, q0, hargs, rfl, rfl, h0, r0⟩ := trodAll_cons hA
  obtain ⟨v1, vs1, d1, ds1, p1, q1, rfl, rfl, rfl, h1, r1⟩ := trodAll_cons r0
  obtain ⟨v2, vs2, d2, ds2, p2, q2, rfl, rfl, rfl, h2, r2⟩ := trodAll_cons r1
  obtain ⟨v3, vs3, d3, ds3, p3, q3, rfl, rfl, rfl, h3, r3⟩ := trodAll_cons r2
  obtain ⟨v4, vs4, d4, ds4, p4, q4, rfl, rfl, rfl, h4, r4⟩ := trodAll_cons r3
  obtain ⟨rfl, rfl, rfl⟩ := trodAll_nil r4
  obtain rfl : args = #[v0, v1, v2, v3, v4] := by cases args; simp_all
  obtain ⟨rfl, rfl⟩ := trodVars_none hV
  obtain ⟨a0, rfl, rfl, rfl, w0⟩ := open_int Try.underlying3 (hval 0 3 v0 rfl rfl) h0
  obtain ⟨a1, rfl, rfl, rfl, w1⟩ := open_int Try.underlying3 (hval 1 3 v1 rfl rfl) h1
  obtain ⟨a2, rfl, rfl, rfl, w2⟩ := open_int Try.underlying3 (hval 2 3 v2 rfl rfl) h2
  obtain ⟨a3, rfl, rfl, rfl, w3⟩ := open_int Try.underlying3 (hval 3 3 v3 rfl rfl) h3
  obtain ⟨a4, rfl, rfl, rfl⟩ := open_bool Try.underlying4 (hval 4 4 v4 rfl rfl) h4
  clear hA0 hval0
  simp only [List.append_nil] at hW'
  refine (walk a0 a1 a2 a3 a4 w0 w1 w2 w3 W).mono fun e W' ⟨he, hg⟩ => ?_
  subst he
  exact ⟨_, rfl, post_of_below (pa := []) (pv := []) hW' (fun _ _ _ => (trodAll_cons_mk (shut_bool Try.underlying4 _) trodAll_mk0)) (fun sp _ => (trodAll_cons_mk (shut_int Try.underlying3 w0) (trodAll_cons_mk (shut_int Try.underlying3 w1) (trodAll_cons_mk (shut_int Try.underlying3 w2) (trodAll_cons_mk (shut_int Try.underlying3 w3) (trodAll_cons_mk (shut_bool Try.underlying4 _) trodAll_mk0)))))) (fun _ _ => rfl) rfl
    hg (ok_one (by kernel_rfl) rfl (okWide_bool_mk Try.underlying4 _))⟩

theorem over : Rows.dutyMoreRow.holds Try.pinned (OpenSpec.ofChange Rows.dutyMoreSpec) :=
  OpenClaim.holds_of_wide 6 Try.f6 rfl rfl rfl rfl rfl rfl rfl ⟨rfl, rfl, rfl, rfl, rfl⟩ rfl rfl rfl rfl rfl (by kernel_rfl) Try.func6 (by kernel_rfl)
    (of_decide_eq_true (by kernel_rfl)) (by unfold Func.isWrapper; first | (rw [if_pos (by decide +kernel)]; kernel_rfl) | (rw [if_neg (by decide +kernel)]; exact ⟨rfl, rfl⟩))
    (fun os started H enc _ => lifted os started H enc)

theorem proved : Rows.DutyMoreSaid :=
  over
#print axioms proved
end Go.Proofs.Ytnlmcingbdmelaa.dutyMore
