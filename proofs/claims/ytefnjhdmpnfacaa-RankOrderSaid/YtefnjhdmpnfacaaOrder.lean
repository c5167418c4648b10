/- Better is transitive and asymmetric, and two distances of which none is better are equal; what is feasible for a route is feasible for each whose Least is not better. For all distances and routes. -/
import Derived.Test.YtefnjhdmpnfacaaFrame
import Derived.Deep.QuietTactic
import Derived.BigQuiet
namespace Go.Proofs.Ytefnjhdmpnfacaa.rankOrder
open Go.ChangeShapes Go.WideShapes Go.ChangeAt Go.RowKit Go.BigFrame
set_option linter.unusedVariables false

theorem order_key (s0 x0 s1 x1 s2 x2 : Int) (ab ba bc ac : Bool) (h0 : ab = betB s0 x0 s1 x1) (h1 : ba = betB s1 x1 s0 x0) (h2 : bc = betB s1 x1 s2 x2) (h3 : ac = betB s0 x0 s2 x2) :
    (ab = true ∧ ba = false ∧ ((s0 == s1) = false ∨ ((s0 == s1) = true ∧ (x0 == x1) = false)) ∧ ((bc = true ∧ ac = true) ∨ bc = false)) ∨
    (ab = false ∧ ba = true ∧ ((s0 == s1) = false ∨ ((s0 == s1) = true ∧ (x0 == x1) = false))) ∨ (ab = false ∧ ba = false ∧ (s0 == s1) = true ∧ (x0 == x1) = true) := by
  subst h0 h1 h2 h3
  simp only [betB, decide_eq_true_eq, decide_eq_false_iff_not, beq_iff_eq, beq_eq_false_iff_ne, ne_eq]
  omega

theorem feas_key (s0 x0 : Int) (r s : Rte) (f b f2 : Bool) (h0 : f = feasB r s0 x0) (h1 : b = betB s.ls s.lr r.ls r.lr) (h2 : f2 = feasB s s0 x0) : f = false ∨ (f = true ∧ b = true) ∨ (f = true ∧ b = false ∧ f2 = true) := by
  subst h0 h1 h2
  simp only [feasB, betB, Bool.and_eq_true, decide_eq_true_eq, decide_eq_false_iff_not, Bool.and_eq_false_iff]
  omega

theorem five {w w1 : World} {t0 t1 t2 t3 t4 : TypeId} {c0 c1 c2 c3 c4 : Array Value}
    (hb : Below (((((w.alloc (.cells c0 t0)).alloc (.cells c1 t1)).alloc (.cells c2 t2)).alloc (.cells c3 t3)).alloc (.cells c4 t4)).heap.size (((((w.alloc (.cells c0 t0)).alloc (.cells c1 t1)).alloc (.cells c2 t2)).alloc (.cells c3 t3)).alloc (.cells c4 t4)) w1) :
    Whole w1 w.heap.size t0 c0 ∧ Whole w1 (w.heap.size + 1) t1 c1 ∧ Whole w1 (w.heap.size + 1 + 1) t2 c2 ∧ Whole w1 (w.heap.size + 1 + 1 + 1) t3 c3 ∧ Whole w1 (w.heap.size + 1 + 1 + 1 + 1) t4 c4 ∧ Below w.heap.size w w1 :=
  ⟨(((((Whole.new w t0 c0).alloc _).alloc _).alloc _).alloc _).below hb (by simp <;> omega),
   ((((Whole.new_at (w := w.alloc (.cells c0 t0)) (by simp)).alloc _).alloc _).alloc _).below hb (by simp <;> omega),
   (((Whole.new_at (w := (w.alloc (.cells c0 t0)).alloc (.cells c1 t1)) (by simp)).alloc _).alloc _).below hb (by simp <;> omega),
   ((Whole.new_at (w := ((w.alloc (.cells c0 t0)).alloc (.cells c1 t1)).alloc (.cells c2 t2)) (by simp)).alloc _).below hb (by simp <;> omega),
   (Whole.new_at (w := (((w.alloc (.cells c0 t0)).alloc (.cells c1 t1)).alloc (.cells c2 t2)).alloc (.cells c3 t3)) (by simp)).below hb (by simp),
   below_next hb ((((((Below.refl _ _).alloc (Nat.le_refl _) _).alloc (by simp) _).alloc (by simp <;> omega) _).alloc (by simp <;> omega) _).alloc (by simp <;> omega) _) (by simp <;> omega)⟩

set_option maxHeartbeats 8000000 in
set_option maxRecDepth 100000 in
theorem walk (s0 x0 : Int) (s1 x1 : Int) (s2 x2 : Int) (r3 : Rte) (r4 : Rte) (w : World)  :
    Calls Try.prog 6 #[.agg #[.int .i64 s0, .int .i64 x0], .agg #[.int .i64 s1, .int .i64 x1], .agg #[.int .i64 s2, .int .i64 x2], .agg r3.cells, .agg r4.cells] w fun e w' => e = .returned (.bool true) ∧ Below w.heap.size w w' := by
  obtain ⟨ro, rr, rl, rk, rp⟩ := r3
  obtain ⟨so, sr, sl, sk, sp⟩ := r4
  unfold Rte.cells
  simp only
  obtain ⟨ab, h0⟩ : ∃ x, x = betB s0 x0 s1 x1 := ⟨_, rfl⟩
  obtain ⟨ba, h1⟩ : ∃ x, x = betB s1 x1 s0 x0 := ⟨_, rfl⟩
  obtain ⟨bc, h2⟩ : ∃ x, x = betB s1 x1 s2 x2 := ⟨_, rfl⟩
  obtain ⟨ac, h3⟩ : ∃ x, x = betB s0 x0 s2 x2 := ⟨_, rfl⟩
  obtain ⟨f, h4⟩ : ∃ x, x = feasB ⟨ro, rr, rl, rk, rp⟩ s0 x0 := ⟨_, rfl⟩
  obtain ⟨b, h5⟩ : ∃ x, x = betB sl sk rl rk := ⟨_, rfl⟩
  obtain ⟨f2, h6⟩ : ∃ x, x = feasB ⟨so, sr, sl, sk, sp⟩ s0 x0 := ⟨_, rfl⟩
  have K1 := order_key s0 x0 s1 x1 s2 x2 ab ba bc ac h0 h1 h2 h3
  have K2 := feas_key s0 x0 ⟨ro, rr, rl, rk, rp⟩ ⟨so, sr, sl, sk, sp⟩ f b f2 h4 h5 h6
  have H0 := Lib.hid h0
  have H1 := Lib.hid h1
  have H2 := Lib.hid h2
  have H3 := Lib.hid h3
  have H4 := Lib.hid h4
  have H5 := Lib.hid h5
  have H6 := Lib.hid h6
  clear h0 h1 h2 h3 h4 h5 h6
  rcases K1 with ⟨rfl, rfl, e0 | ⟨e0, e1⟩, ⟨rfl, rfl⟩ | rfl⟩ | ⟨rfl, rfl, e0 | ⟨e0, e1⟩⟩ | ⟨rfl, rfl, e0, e1⟩ <;>
  rcases K2 with rfl | ⟨rfl, rfl⟩ | ⟨rfl, rfl, rfl⟩
  all_goals (
    go_enter Try.func6, Try.ntmps6
    go_wp2_with fail
    (with_reducible refine (head_any _).mono ?_)
    rintro e w1 ⟨rfl, hb⟩
    obtain ⟨k0, k1, k2, k3, k4, hB⟩ := five hb
    clear hb
    have q0 : ∀ u, (ext w1 u).cell? ⟨w.heap.size, 0, none⟩ = some (.int .i64 s0) := fun u => (ext_cell w1 u k0.lt).trans (k0.cell 0)
    have q1 : ∀ u, (ext w1 u).cell? ⟨w.heap.size, 1, none⟩ = some (.int .i64 x0) := fun u => (ext_cell w1 u k0.lt).trans (k0.cell 1)
    have q2 : ∀ u, (ext w1 u).cell? ⟨w.heap.size + 1, 0, none⟩ = some (.int .i64 s1) := fun u => (ext_cell w1 u k1.lt).trans (k1.cell 0)
    have q3 : ∀ u, (ext w1 u).cell? ⟨w.heap.size + 1, 1, none⟩ = some (.int .i64 x1) := fun u => (ext_cell w1 u k1.lt).trans (k1.cell 1)
    have q4 : ∀ u, (ext w1 u).cell? ⟨w.heap.size + 1 + 1, 0, none⟩ = some (.int .i64 s2) := fun u => (ext_cell w1 u k2.lt).trans (k2.cell 0)
    have q5 : ∀ u, (ext w1 u).cell? ⟨w.heap.size + 1 + 1, 1, none⟩ = some (.int .i64 x2) := fun u => (ext_cell w1 u k2.lt).trans (k2.cell 1)
    have y0 : ∀ u, (ext w1 u).cell? ⟨w.heap.size + 1 + 1 + 1, 0, none⟩ = some (.int .i64 ro) := fun u => (ext_cell w1 u k3.lt).trans (k3.cell 0)
    have y1 : ∀ u, (ext w1 u).cell? ⟨w.heap.size + 1 + 1 + 1, 1, none⟩ = some (.int .i64 rr) := fun u => (ext_cell w1 u k3.lt).trans (k3.cell 1)
    have y2 : ∀ u, (ext w1 u).cell? ⟨w.heap.size + 1 + 1 + 1, 2, none⟩ = some (.int .i64 rl) := fun u => (ext_cell w1 u k3.lt).trans (k3.cell 2)
    have y3 : ∀ u, (ext w1 u).cell? ⟨w.heap.size + 1 + 1 + 1, 3, none⟩ = some (.int .i64 rk) := fun u => (ext_cell w1 u k3.lt).trans (k3.cell 3)
    have y4 : ∀ u, (ext w1 u).cell? ⟨w.heap.size + 1 + 1 + 1, 4, none⟩ = some (.int .i64 rp) := fun u => (ext_cell w1 u k3.lt).trans (k3.cell 4)
    have z0 : ∀ u, (ext w1 u).cell? ⟨w.heap.size + 1 + 1 + 1 + 1, 0, none⟩ = some (.int .i64 so) := fun u => (ext_cell w1 u k4.lt).trans (k4.cell 0)
    have z1 : ∀ u, (ext w1 u).cell? ⟨w.heap.size + 1 + 1 + 1 + 1, 1, none⟩ = some (.int .i64 sr) := fun u => (ext_cell w1 u k4.lt).trans (k4.cell 1)
    have z2 : ∀ u, (ext w1 u).cell? ⟨w.heap.size + 1 + 1 + 1 + 1, 2, none⟩ = some (.int .i64 sl) := fun u => (ext_cell w1 u k4.lt).trans (k4.cell 2)
    have z3 : ∀ u, (ext w1 u).cell? ⟨w.heap.size + 1 + 1 + 1 + 1, 3, none⟩ = some (.int .i64 sk) := fun u => (ext_cell w1 u k4.lt).trans (k4.cell 3)
    have z4 : ∀ u, (ext w1 u).cell? ⟨w.heap.size + 1 + 1 + 1 + 1, 4, none⟩ = some (.int .i64 sp) := fun u => (ext_cell w1 u k4.lt).trans (k4.cell 4)
    clear k0 k1 k2 k3 k4
    go_wp2_with fail
    refine wp_region_ext (by kernel_rfl) (by kernel_rfl) ?_
    repeat (go_big_quiet_step ((go_at_call 19; with_reducible first | exact calls_ext (better_is s0 x0 s1 x1 _ _ H0.out) | exact calls_ext (better_is s1 x1 s0 x0 _ _ H1.out))))
    refine wpQuiet_nil ?_
    rintro _ ⟨u, rfl⟩
    go_wp2_with (first
      | (go_at_call 19; (with_reducible first | refine (calls_ext (better_is s1 x1 s2 x2 _ _ H2.out)).mono ?_ | refine (calls_ext (better_is s0 x0 s2 x2 _ _ H3.out)).mono ?_ | refine (calls_ext (better_is sl sk rl rk _ _ H5.out)).mono ?_); rintro e w' ⟨rfl, u', rfl⟩)
      | (go_at_call 22; (with_reducible first | refine (calls_ext (feasible_is ro rr rl rk rp s0 x0 _ _ H4.out)).mono ?_ | refine (calls_ext (feasible_is so sr sl sk sp s0 x0 _ _ H6.out)).mono ?_); rintro e w' ⟨rfl, u', rfl⟩))
    go_ret
    exact ⟨rfl, below_next (ext_below _ _) hB hB.size⟩)

set_option maxRecDepth 100000 in
theorem lifted (os : Os) (started : os.Started) (H : Type) (enc : TypeId × Value → H) :
    ReturnsInHanded {} Try.checked os 6 .any (Rows.rankOrderSpec.pre6 enc Try.prog Try.f6 Rows.rankOrderRow.domain false) (Rows.rankOrderSpec.post enc Try.prog Try.f6 false true false false) := by
  refine returnsInHanded_of_change (C := Try.checked) own started (by kernel_rfl) Try.func6
    (ChangeSpec.witness6 (enc := enc) (C := Try.checked) false ⟨#[], #[.agg #[.int .i64 0, .int .i64 0], .agg #[.int .i64 0, .int .i64 0], .agg #[.int .i64 0, .int .i64 0], .agg #[.int .i64 0, .int .i64 0, .int .i64 0, .int .i64 0, .int .i64 0], .agg #[.int .i64 0, .int .i64 0, .int .i64 0, .int .i64 0, .int .i64 0]], []⟩ 8 (by kernel_rfl) (by kernel_rfl) (by kernel_rfl) (by kernel_rfl)) ?_
  intro W base args ds gs before hval0 hW hcnd _
  have hval : ∀ (j : Nat) t v, Try.f6.params[j]? = some t → args[j]? = some v → Value.okWide Try.prog W .any base t v := hval0
  have hW' := hW
  obtain ⟨p, q, hA0, hV, rfl, hfz, hnd⟩ := hW
  have hA : DataW.TrodAll enc Try.prog W 0 (fun _ => true) true Try.f6.params.toList args.toList ds p := hA0
  rw [Try.params6] at hA hval
  obtain ⟨v0, vs0, d0, ds0, p0, q0, hargs, rfl, rfl, h0, z0⟩ := trodAll_cons hA
  obtain ⟨v1, vs1, d1, ds1, p1, q1, rfl, rfl, rfl, h1, z1⟩ := trodAll_cons z0
  obtain ⟨v2, vs2, d2, ds2, p2, q2, rfl, rfl, rfl, h2, z2⟩ := trodAll_cons z1
  obtain ⟨v3, vs3, d3, ds3, p3, q3, rfl, rfl, rfl, h3, z3⟩ := trodAll_cons z2
  obtain ⟨v4, vs4, d4, ds4, p4, q4, rfl, rfl, rfl, h4, z4⟩ := trodAll_cons z3
  obtain ⟨rfl, rfl, rfl⟩ := trodAll_nil z4
  obtain rfl : args = #[v0, v1, v2, v3, v4] := by cases args; simp_all
  obtain ⟨rfl, rfl⟩ := trodVars_none hV
  have k0 := h0
  have lt0 : ∀ x ∈ p0, x.block < W.heap.size := by obtain ⟨m, hm⟩ := k0; exact DataW.trod_lt m _ _ _ hm
  obtain ⟨s0, x0, rfl⟩ := open_dst (hval 0 41 v0 rfl rfl) h0
  have k1 := h1
  have lt1 : ∀ x ∈ p1, x.block < W.heap.size := by obtain ⟨m, hm⟩ := k1; exact DataW.trod_lt m _ _ _ hm
  obtain ⟨s1, x1, rfl⟩ := open_dst (hval 1 41 v1 rfl rfl) h1
  have k2 := h2
  have lt2 : ∀ x ∈ p2, x.block < W.heap.size := by obtain ⟨m, hm⟩ := k2; exact DataW.trod_lt m _ _ _ hm
  obtain ⟨s2, x2, rfl⟩ := open_dst (hval 2 41 v2 rfl rfl) h2
  have k3 := h3
  have lt3 : ∀ x ∈ p3, x.block < W.heap.size := by obtain ⟨m, hm⟩ := k3; exact DataW.trod_lt m _ _ _ hm
  obtain ⟨r3, rfl⟩ := open_rte (hval 3 43 v3 rfl rfl) h3
  have k4 := h4
  have lt4 : ∀ x ∈ p4, x.block < W.heap.size := by obtain ⟨m, hm⟩ := k4; exact DataW.trod_lt m _ _ _ hm
  obtain ⟨r4, rfl⟩ := open_rte (hval 4 43 v4 rfl rfl) h4
  clear hA0 hval0
  refine (walk s0 x0 s1 x1 s2 x2 r3 r4 W ).mono fun e W' ⟨he, hg⟩ => ?_
  subst he
  exact ⟨_, rfl, _, _, _, [], _, [], hW', trodAll_mk1 (shut_bool Try.underlying4 _), (trodAll_cons_mk (Below.trod laidOut (by kernel_rfl) (of_decide_eq_true (by kernel_rfl)) k0 hg lt0) (trodAll_cons_mk (Below.trod laidOut (by kernel_rfl) (of_decide_eq_true (by kernel_rfl)) k1 hg lt1) (trodAll_cons_mk (Below.trod laidOut (by kernel_rfl) (of_decide_eq_true (by kernel_rfl)) k2 hg lt2) (trodAll_cons_mk (Below.trod laidOut (by kernel_rfl) (of_decide_eq_true (by kernel_rfl)) k3 hg lt3) (trodAll_cons_mk (Below.trod laidOut (by kernel_rfl) (of_decide_eq_true (by kernel_rfl)) k4 hg lt4) trodAll_mk0))))), rfl, hg.frame _, fun h => by cases h⟩

theorem over : Rows.rankOrderRow.holds Try.pinned (OpenSpec.ofChange Rows.rankOrderSpec) :=
  OpenClaim.holds_of_wide 6 Try.f6 rfl rfl rfl rfl rfl rfl rfl ⟨rfl, rfl, rfl, rfl, rfl⟩ rfl rfl rfl rfl rfl (by kernel_rfl) Try.func6 (by kernel_rfl)
    (of_decide_eq_true (by kernel_rfl)) (by unfold Func.isWrapper; rw [if_neg (of_decide_eq_false (by kernel_rfl))]; exact ⟨rfl, rfl⟩)
    (fun os started H enc _ => lifted os started H enc)

theorem proved : Rows.RankOrderSaid := over
#print axioms proved
end Go.Proofs.Ytefnjhdmpnfacaa.rankOrder
