/- For all routes, offers and numbers, all functions of package rank return what the reference implementation returns (up to 80 offers). -/
import Derived.Test.YtefnjhdmpnfacaaFrame
import Derived.Test.YtefnjhdmpnfacaaLaws
import Derived.Test.YtefnjhdmpnfacaaRefChoose
import Derived.Test.YtefnjhdmpnfacaaRefRenew
import Derived.Deep.QuietTactic
import Derived.BigQuiet
namespace Go.Proofs.Ytefnjhdmpnfacaa.rankMatchesReference
open Go.ChangeShapes Go.WideShapes Go.ChangeAt Go.RowKit Go.BigFrame
set_option linter.unusedVariables false

theorem three {w w1 : World} {t0 t1 t2 : TypeId} {c0 c1 c2 : Array Value}
    (hb : Below (((w.alloc (.cells c0 t0)).alloc (.cells c1 t1)).alloc (.cells c2 t2)).heap.size (((w.alloc (.cells c0 t0)).alloc (.cells c1 t1)).alloc (.cells c2 t2)) w1) :
    Whole w1 w.heap.size t0 c0 ∧ Whole w1 (w.heap.size + 1) t1 c1 ∧ Whole w1 (w.heap.size + 1 + 1) t2 c2 ∧ Below w.heap.size w w1 :=
  ⟨(((Whole.new w t0 c0).alloc _).alloc _).below hb (by simp <;> omega),
   ((Whole.new_at (w := w.alloc (.cells c0 t0)) (by simp)).alloc _).below hb (by simp <;> omega),
   (Whole.new_at (w := (w.alloc (.cells c0 t0)).alloc (.cells c1 t1)) (by simp)).below hb (by simp),
   below_next hb ((((Below.refl _ _).alloc (Nat.le_refl _) _).alloc (by simp) _).alloc (by simp <;> omega) _) (by simp <;> omega)⟩

theorem below_two {w : World} {v : Value} (o1 o2 : Obj) (e : Ending) (w' : World) (h : e = .returned v ∧ (w.alloc o1).alloc o2 = w') : e = .returned v ∧ Below w.heap.size w w' := by
  obtain ⟨h1, rfl⟩ := h
  exact ⟨h1, ((Below.refl _ _).alloc (Nat.le_refl _) _).alloc (by simp) _⟩

theorem rbetter_b (a x b y : Int) (r : Bool) (w : World) (h : r = betB a x b y) :
    Calls Try.prog 21 #[.agg #[.int .i64 a, .int .i64 x], .agg #[.int .i64 b, .int .i64 y]] w fun e w' => e = .returned (.bool r) ∧ Below w.heap.size w w' :=
  (rbetter_is a x b y r w h).mono fun e w' h => below_two _ _ e w' h

set_option maxHeartbeats 8000000 in
set_option maxRecDepth 100000 in
theorem walk (r0 : Rte) (A1 : Option Addr) (len1 cap1 : Nat) (xs1 : List Off) (s2 x2 : Int) (s3 x3 : Int) (a4 : Bool) (a5 : Int) (w : World) (hx1 : Offs w A1 len1 xs1) (hl1 : len1 ≤ cap1) (hm1 : cap1 ≤ maxLen) (w5 : (Lit.int .i64 a5).wf = true) :
    Calls Try.prog 5 #[.agg r0.cells, .slice A1 len1 cap1, .agg #[.int .i64 s2, .int .i64 x2], .agg #[.int .i64 s3, .int .i64 x3], .bool a4, .int .i64 a5] w fun e w' => e = .returned (.bool true) ∧ Below w.heap.size w w' := by
  obtain ⟨ro, rr, rl, rk, rp⟩ := r0
  unfold Rte.cells
  simp only
  have HX := Lib.hid hx1
  clear hx1
  by_cases hn : 80 < len1
  · have hn' : (80 : Int) < (len1 : Int) := by omega
    go_enter Try.func5, Try.ntmps5
    go_wp2_with fail
    (with_reducible refine (head_any _).mono ?_)
    rintro e w1 ⟨rfl, hb⟩
    obtain ⟨_, _, _, hB⟩ := three hb
    go_wp2
    go_ret
    exact ⟨rfl, hB⟩
  have hn' : ¬ (80 : Int) < (len1 : Int) := by omega
  have hlen : len1 ≤ 1000000 := by omega
  have HLn := Lib.hid hlen
  obtain ⟨na, ha⟩ : ∃ n, n = startF a4 a5 := ⟨_, rfl⟩
  obtain ⟨bt, hbt⟩ : ∃ n, n = betB s2 x2 s3 x3 := ⟨_, rfl⟩
  obtain ⟨fs, hfs⟩ : ∃ n, n = feasB ⟨ro, rr, rl, rk, rp⟩ s2 x2 := ⟨_, rfl⟩
  obtain ⟨nc, hc⟩ : ∃ n, n = chooseF ⟨ro, rr, rl, rk, rp⟩ xs1 := ⟨_, rfl⟩
  obtain ⟨nr, hr⟩ : ∃ n, n = renewF ⟨ro, rr, rl, rk, rp⟩ a5 := ⟨_, rfl⟩
  have H0 := Lib.hid ha
  have H1 := Lib.hid hbt
  have H2 := Lib.hid hfs
  have H3 := Lib.hid hc
  have H4 := Lib.hid hr
  clear ha hbt hfs hc hr hlen
  obtain ⟨a_o, a_r, a_l, a_k, a_p⟩ := na
  obtain ⟨c_o, c_r, c_l, c_k, c_p⟩ := nc
  obtain ⟨n_o, n_r, n_l, n_k, n_p⟩ := nr
  go_enter Try.func5, Try.ntmps5
  go_wp2_with fail
  (with_reducible refine (head_any _).mono ?_)
  rintro e w1 ⟨rfl, hb⟩
  obtain ⟨k0, k1, k2, hB⟩ := three hb
  clear hb
  have HX1 := Lib.hid (HX.out.below hB)
  have q00 : ∀ u, (ext w1 u).cell? ⟨w.heap.size, 0, none⟩ = some (.int .i64 ro) := fun u => (ext_cell w1 u k0.lt).trans (k0.cell 0)
  have q01 : ∀ u, (ext w1 u).cell? ⟨w.heap.size, 1, none⟩ = some (.int .i64 rr) := fun u => (ext_cell w1 u k0.lt).trans (k0.cell 1)
  have q02 : ∀ u, (ext w1 u).cell? ⟨w.heap.size, 2, none⟩ = some (.int .i64 rl) := fun u => (ext_cell w1 u k0.lt).trans (k0.cell 2)
  have q03 : ∀ u, (ext w1 u).cell? ⟨w.heap.size, 3, none⟩ = some (.int .i64 rk) := fun u => (ext_cell w1 u k0.lt).trans (k0.cell 3)
  have q04 : ∀ u, (ext w1 u).cell? ⟨w.heap.size, 4, none⟩ = some (.int .i64 rp) := fun u => (ext_cell w1 u k0.lt).trans (k0.cell 4)
  have q10 : ∀ u, (ext w1 u).cell? ⟨w.heap.size + 1, 0, none⟩ = some (.int .i64 s2) := fun u => (ext_cell w1 u k1.lt).trans (k1.cell 0)
  have q11 : ∀ u, (ext w1 u).cell? ⟨w.heap.size + 1, 1, none⟩ = some (.int .i64 x2) := fun u => (ext_cell w1 u k1.lt).trans (k1.cell 1)
  have q20 : ∀ u, (ext w1 u).cell? ⟨w.heap.size + 1 + 1, 0, none⟩ = some (.int .i64 s3) := fun u => (ext_cell w1 u k2.lt).trans (k2.cell 0)
  have q21 : ∀ u, (ext w1 u).cell? ⟨w.heap.size + 1 + 1, 1, none⟩ = some (.int .i64 x3) := fun u => (ext_cell w1 u k2.lt).trans (k2.cell 1)
  clear k0 k1 k2
  go_wp2_with fail
  refine wp_region_ext (by kernel_rfl) (by kernel_rfl) ?_
  repeat (go_big_quiet_step ((first
    | (go_at_call 17; with_reducible exact calls_ext (start_is a4 a5 ⟨a_o, a_r, a_l, a_k, a_p⟩ _ H0.out))
    | (go_at_call 20; with_reducible exact calls_ext (rstart_is a4 a5 ⟨a_o, a_r, a_l, a_k, a_p⟩ _ H0.out))
    | (go_at_call 19; with_reducible exact calls_ext (better_is s2 x2 s3 x3 bt _ H1.out))
    | (go_at_call 21; with_reducible exact calls_ext (rbetter_b s2 x2 s3 x3 bt _ H1.out))
    | (go_at_call 22; with_reducible exact calls_ext (feasible_is ro rr rl rk rp s2 x2 fs _ H2.out))
    | (go_at_call 23; with_reducible exact calls_ext (rfeasible_is ro rr rl rk rp s2 x2 fs _ H2.out))
    | (go_at_call 18; with_reducible exact calls_ext (choose_v ro rr rl rk rp ⟨c_o, c_r, c_l, c_k, c_p⟩ xs1 A1 len1 cap1 _ (HX1.out.below (ext_below _ _)) HLn.out H3.out))
    | (go_at_call 24; with_reducible exact calls_ext (rchoose_is ro rr rl rk rp ⟨c_o, c_r, c_l, c_k, c_p⟩ xs1 A1 len1 cap1 _ (HX1.out.below (ext_below _ _)) HLn.out H3.out))
    | (go_at_call 25; with_reducible exact calls_ext (renew_v ro rr rl rk rp a5 ⟨n_o, n_r, n_l, n_k, n_p⟩ _ H4.out))
    | (go_at_call 26; with_reducible exact calls_ext (rrenew_is ro rr rl rk rp a5 ⟨n_o, n_r, n_l, n_k, n_p⟩ _ H4.out)))))
  refine wpQuiet_nil ?_
  rintro _ ⟨u, rfl⟩
  go_wp2
  go_ret
  exact ⟨rfl, below_next (ext_below _ _) hB hB.size⟩

set_option maxRecDepth 100000 in
theorem lifted (os : Os) (started : os.Started) (H : Type) (enc : TypeId × Value → H) :
    ReturnsInHanded {} Try.checked os 5 .any (Rows.rankMatchesReferenceSpec.pre6 enc Try.prog Try.f5 Rows.rankMatchesReferenceRow.domain false) (Rows.rankMatchesReferenceSpec.post enc Try.prog Try.f5 false true false false) := by
  refine returnsInHanded_of_change (C := Try.checked) own started (by kernel_rfl) Try.func5
    (ChangeSpec.witness6 (enc := enc) (C := Try.checked) false ⟨#[], #[.agg #[.int .i64 0, .int .i64 0, .int .i64 0, .int .i64 0, .int .i64 0], .slice none 0 0, .agg #[.int .i64 0, .int .i64 0], .agg #[.int .i64 0, .int .i64 0], .bool false, .int .i64 0], []⟩ 8 (by kernel_rfl) (by kernel_rfl) (by kernel_rfl) (by kernel_rfl)) ?_
  intro W base args ds gs before hval0 hW hcnd _
  have hval : ∀ (j : Nat) t v, Try.f5.params[j]? = some t → args[j]? = some v → Value.okWide Try.prog W .any base t v := hval0
  have hW' := hW
  obtain ⟨p, q, hA0, hV, rfl, hfz, hnd⟩ := hW
  have hA : DataW.TrodAll enc Try.prog W 0 (fun _ => true) true Try.f5.params.toList args.toList ds p := hA0
  rw [Try.params5] at hA hval
  obtain ⟨v0, vs0, d0, ds0, p0, q0, hargs, rfl, rfl, h0, z0⟩ := trodAll_cons hA
  obtain ⟨v1, vs1, d1, ds1, p1, q1, rfl, rfl, rfl, h1, z1⟩ := trodAll_cons z0
  obtain ⟨v2, vs2, d2, ds2, p2, q2, rfl, rfl, rfl, h2, z2⟩ := trodAll_cons z1
  obtain ⟨v3, vs3, d3, ds3, p3, q3, rfl, rfl, rfl, h3, z3⟩ := trodAll_cons z2
  obtain ⟨v4, vs4, d4, ds4, p4, q4, rfl, rfl, rfl, h4, z4⟩ := trodAll_cons z3
  obtain ⟨v5, vs5, d5, ds5, p5, q5, rfl, rfl, rfl, h5, z5⟩ := trodAll_cons z4
  obtain ⟨rfl, rfl, rfl⟩ := trodAll_nil z5
  obtain rfl : args = #[v0, v1, v2, v3, v4, v5] := by cases args; simp_all
  obtain ⟨rfl, rfl⟩ := trodVars_none hV
  have k0 := h0
  have lt0 : ∀ x ∈ p0, x.block < W.heap.size := by obtain ⟨m, hm⟩ := k0; exact DataW.trod_lt m _ _ _ hm
  obtain ⟨r0, rfl⟩ := open_rte (hval 0 43 v0 rfl rfl) h0
  have k1 := h1
  have lt1 : ∀ x ∈ p1, x.block < W.heap.size := by obtain ⟨m, hm⟩ := k1; exact DataW.trod_lt m _ _ _ hm
  obtain ⟨A1, len1, cap1, xs1, rfl, hl1, hm1, hx1⟩ := open_offs (hval 1 37 v1 rfl rfl) h1
  have k2 := h2
  have lt2 : ∀ x ∈ p2, x.block < W.heap.size := by obtain ⟨m, hm⟩ := k2; exact DataW.trod_lt m _ _ _ hm
  obtain ⟨s2, x2, rfl⟩ := open_dst (hval 2 41 v2 rfl rfl) h2
  have k3 := h3
  have lt3 : ∀ x ∈ p3, x.block < W.heap.size := by obtain ⟨m, hm⟩ := k3; exact DataW.trod_lt m _ _ _ hm
  obtain ⟨s3, x3, rfl⟩ := open_dst (hval 3 41 v3 rfl rfl) h3
  have k4 := h4
  have lt4 : ∀ x ∈ p4, x.block < W.heap.size := by obtain ⟨m, hm⟩ := k4; exact DataW.trod_lt m _ _ _ hm
  obtain ⟨a4, rfl, rfl, rfl⟩ := open_bool Try.underlying4 (hval 4 4 v4 rfl rfl) h4
  have k5 := h5
  have lt5 : ∀ x ∈ p5, x.block < W.heap.size := by obtain ⟨m, hm⟩ := k5; exact DataW.trod_lt m _ _ _ hm
  obtain ⟨a5, rfl, rfl, rfl, w5⟩ := open_int Try.underlying3 (hval 5 3 v5 rfl rfl) h5
  clear hA0 hval0
  refine (walk r0 A1 len1 cap1 xs1 s2 x2 s3 x3 a4 a5 W hx1 hl1 hm1 w5).mono fun e W' ⟨he, hg⟩ => ?_
  subst he
  exact ⟨_, rfl, _, _, _, [], _, [], hW', trodAll_mk1 (shut_bool Try.underlying4 _), (trodAll_cons_mk (Below.trod laidOut (by kernel_rfl) (of_decide_eq_true (by kernel_rfl)) k0 hg lt0) (trodAll_cons_mk (Below.trod laidOut (by kernel_rfl) (of_decide_eq_true (by kernel_rfl)) k1 hg lt1) (trodAll_cons_mk (Below.trod laidOut (by kernel_rfl) (of_decide_eq_true (by kernel_rfl)) k2 hg lt2) (trodAll_cons_mk (Below.trod laidOut (by kernel_rfl) (of_decide_eq_true (by kernel_rfl)) k3 hg lt3) (trodAll_cons_mk (Below.trod laidOut (by kernel_rfl) (of_decide_eq_true (by kernel_rfl)) k4 hg lt4) (trodAll_cons_mk (Below.trod laidOut (by kernel_rfl) (of_decide_eq_true (by kernel_rfl)) k5 hg lt5) trodAll_mk0)))))), rfl, hg.frame _, fun h => by cases h⟩

theorem over : Rows.rankMatchesReferenceRow.holds Try.pinned (OpenSpec.ofChange Rows.rankMatchesReferenceSpec) :=
  OpenClaim.holds_of_wide 5 Try.f5 rfl rfl rfl rfl rfl rfl rfl ⟨rfl, rfl, rfl, rfl, rfl⟩ rfl rfl rfl rfl rfl (by kernel_rfl) Try.func5 (by kernel_rfl)
    (of_decide_eq_true (by kernel_rfl)) (by unfold Func.isWrapper; rw [if_neg (of_decide_eq_false (by kernel_rfl))]; exact ⟨rfl, rfl⟩)
    (fun os started H enc _ => lifted os started H enc)

theorem proved : Rows.RankMatchesReferenceSaid := over
#print axioms proved
end Go.Proofs.Ytefnjhdmpnfacaa.rankMatchesReference
