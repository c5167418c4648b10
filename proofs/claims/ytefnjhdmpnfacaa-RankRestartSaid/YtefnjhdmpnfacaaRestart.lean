/- A node that starts with the greatest number that it has told chooses no parent by offers without a greater number; and what it tells is not better than what it told before with the same number. -/
import Derived.Test.YtefnjhdmpnfacaaFrame
import Derived.Test.YtefnjhdmpnfacaaLaws
namespace Go.Proofs.Ytefnjhdmpnfacaa.rankRestart
open Go.ChangeShapes Go.WideShapes Go.ChangeAt Go.RowKit Go.BigFrame
set_option linter.unusedVariables false

def greatB (s : Int) (o : Off) : Bool := decide (s < o.seq ∧ o.rank + o.cost < 1000000)

theorem restart_key (r : Rte) (xs : List Off) (n : Rte) (hv : rteB r = true) (ho : offsB xs = true) (hn : n = chooseF ⟨r.os, 1000000, r.os, 0, -1⟩ xs) :
    (xs.any (greatB r.os) = true ∧ 0 ≤ n.par) ∨ (xs.any (greatB r.os) = false ∧ n = ⟨r.os, 1000000, r.os, 0, -1⟩ ∧ betB r.os 1000000 r.os r.orr = false) := by
  obtain ⟨⟨a0, a1, a2, a3⟩, _⟩ := rte_bd hv
  have hs : rteB ⟨r.os, 1000000, r.os, 0, -1⟩ = true := by
    simp only [rteB, dstB, betB, Bool.and_eq_true, decide_eq_true_eq, Bool.not_eq_true', decide_eq_false_iff_not]
    omega
  have hp : ∀ x ∈ xs, possB ⟨r.os, 1000000, r.os, 0, -1⟩ x = greatB r.os x := by
    intro x hx
    obtain ⟨b0, b1, ⟨b2, b3, b4, b5⟩, b6, b7⟩ := off_bd (offs_mem ho hx)
    rw [Bool.eq_iff_iff, poss_iff, greatB, decide_eq_true_eq]
    simp only
    omega
  rcases choose_two hs ho with ⟨h1, h2⟩ | ⟨b, hb, h1, _, h2⟩
  · refine .inr ⟨?_, hn.trans h2, bet_f (by omega)⟩
    rw [List.any_eq_false]
    intro x hx
    rw [← hp x hx, h1 x hx]
    exact Bool.false_ne_true
  · refine .inl ⟨?_, ?_⟩
    · rw [List.any_eq_true]
      exact ⟨b, hb, by rw [← hp b hb]; exact h1⟩
    · have := off_bd (offs_mem ho hb)
      rw [hn, h2]
      unfold takeF
      split <;> (simp only; omega)

structure TI (w wr : World) (sb nb : Nat) (r s n : Rte) : Prop where
  acc : Below w.heap.size w wr
  k0 : Whole wr w.heap.size 43 r.cells
  k1 : Whole wr sb 43 s.cells
  k2 : Whole wr nb 43 n.cells
theorem TI.below {w wr wx : World} {sb nb : Nat} {r s n : Rte} (h : TI w wr sb nb r s n) (hb : Below wr.heap.size wr wx) : TI w wx sb nb r s n :=
  ⟨below_next hb h.acc h.acc.size, h.k0.below hb h.k0.lt, h.k1.below hb h.k1.lt, h.k2.below hb h.k2.lt⟩

theorem any_step {xs : List Off} {k : Nat} {o : Off} (f : Off → Bool) (h : xs[k]? = some o) : (xs.take (k + 1)).any f = ((xs.take k).any f || f o) := by
  rw [take_step h]; simp

set_option maxHeartbeats 8000000 in
set_option maxRecDepth 100000 in
theorem walk (r0 : Rte) (A1 : Option Addr) (len1 cap1 : Nat) (xs1 : List Off) (w : World) (hx1 : Offs w A1 len1 xs1) (hl1 : len1 ≤ cap1) (hm1 : cap1 ≤ maxLen) :
    Calls Try.prog 4 #[.agg r0.cells, .slice A1 len1 cap1] w fun e w' => e = .returned (.bool true) ∧ Below w.heap.size w w' := by
  obtain ⟨ro, rr, rl, rk, rp⟩ := r0
  unfold Rte.cells
  simp only
  have HX := Lib.hid hx1
  clear hx1
  by_cases hn : 80 < len1
  · have hn' : (80 : Int) < (len1 : Int) := by omega
    go_enter Try.func4, Try.ntmps4
    go_wp2_with fail
    (with_reducible refine (head_any _).mono ?_)
    rintro e w1 ⟨rfl, hb⟩
    go_wp2
    go_ret
    exact ⟨rfl, below_next hb ((Below.refl _ _).alloc (Nat.le_refl _) _) (by simp)⟩
  have hn' : ¬ (80 : Int) < (len1 : Int) := by omega
  have hlen : len1 ≤ 1000000 := by omega
  have HLn := Lib.hid hlen
  clear hlen
  rcases Bool.eq_false_or_eq_true (rteB ⟨ro, rr, rl, rk, rp⟩) with hv | hv
  rotate_left
  · have HV := Lib.hid hv.symm
    clear hv
    go_enter Try.func4, Try.ntmps4
    go_wp2_with fail
    (with_reducible refine (head_any _).mono ?_)
    rintro e w1 ⟨rfl, hb⟩
    have k0 := (Whole.new w 43 #[.int .i64 ro, .int .i64 rr, .int .i64 rl, .int .i64 rk, .int .i64 rp]).below hb (by simp)
    have hB := below_next hb ((Below.refl w.heap.size w).alloc (Nat.le_refl _) _) (by simp)
    clear hb
    obtain ⟨c0, c1, c2, c3, c4, _⟩ := Whole.route (r := ⟨ro, rr, rl, rk, rp⟩) k0
    simp only at c0 c1 c2 c3 c4
    go_wp2_with fail
    (with_reducible refine (rvalid_is ro rr rl rk rp false _ HV.out).mono ?_)
    rintro e w2 ⟨rfl, hb⟩
    go_wp2
    go_ret
    exact ⟨rfl, below_next hb hB hB.size⟩
  have HV := Lib.hid hv.symm
  rcases Bool.eq_false_or_eq_true (offsB xs1) with ho | ho
  rotate_left
  · have HO := Lib.hid ho.symm
    clear hv ho
    go_enter Try.func4, Try.ntmps4
    go_wp2_with fail
    (with_reducible refine (head_any _).mono ?_)
    rintro e w1 ⟨rfl, hb⟩
    have k0 := (Whole.new w 43 #[.int .i64 ro, .int .i64 rr, .int .i64 rl, .int .i64 rk, .int .i64 rp]).below hb (by simp)
    have hB := below_next hb ((Below.refl w.heap.size w).alloc (Nat.le_refl _) _) (by simp)
    clear hb
    have HX1 := Lib.hid (HX.out.below hB)
    obtain ⟨c0, c1, c2, c3, c4, _⟩ := Whole.route (r := ⟨ro, rr, rl, rk, rp⟩) k0
    simp only at c0 c1 c2 c3 c4
    go_wp2_with fail
    (with_reducible refine (rvalid_is ro rr rl rk rp true _ HV.out).mono ?_)
    rintro e w2 ⟨rfl, hb⟩
    have HX2 := Lib.hid (HX1.out.below hb)
    clear c0 c1 c2 c3 c4
    have hB2 := below_next hb hB hB.size
    go_wp2_with fail
    (with_reducible refine (rOffers_is xs1 A1 len1 cap1 false _ HX2.out HLn.out HO.out).mono ?_)
    rintro e w3 ⟨rfl, hb3⟩
    go_wp2
    go_ret
    exact ⟨rfl, below_next hb3 hB2 hB2.size⟩
  have HO := Lib.hid ho.symm
  obtain ⟨n, hnn⟩ : ∃ n, n = chooseF ⟨ro, 1000000, ro, 0, -1⟩ xs1 := ⟨_, rfl⟩
  have KEY := Lib.hid (restart_key ⟨ro, rr, rl, rk, rp⟩ xs1 n hv ho hnn)
  have HN := Lib.hid hnn
  have hst : (⟨ro, 1000000, ro, 0, -1⟩ : Rte) = startF false ro := by
    obtain ⟨⟨a0, a1, _⟩, _⟩ := rte_bd hv
    simp only at a0 a1
    unfold startF
    rw [if_pos ⟨a0, a1⟩]
    rfl
  have HS := Lib.hid hst
  clear hv ho hnn hst
  obtain ⟨no, nr, nl, nk, np⟩ := n
  go_enter Try.func4, Try.ntmps4
  go_wp2_with fail
  (with_reducible refine (head_any _).mono ?_)
  rintro e w1 ⟨rfl, hb⟩
  have k0 := (Whole.new w 43 #[.int .i64 ro, .int .i64 rr, .int .i64 rl, .int .i64 rk, .int .i64 rp]).below hb (by simp)
  have hB := below_next hb ((Below.refl w.heap.size w).alloc (Nat.le_refl _) _) (by simp)
  clear hb
  have HX1 := Lib.hid (HX.out.below hB)
  obtain ⟨c0, c1, c2, c3, c4, _⟩ := Whole.route (r := ⟨ro, rr, rl, rk, rp⟩) k0
  simp only at c0 c1 c2 c3 c4
  go_wp2_with fail
  (with_reducible refine (rvalid_is ro rr rl rk rp true _ HV.out).mono ?_)
  rintro e w2 ⟨rfl, hb⟩
  have HX2 := Lib.hid (HX1.out.below hb)
  clear c0 c1 c2 c3 c4 HX1
  have k0' := k0.below hb k0.lt
  have hB2 := below_next hb hB hB.size
  clear k0 hB hb
  go_wp2_with fail
  (with_reducible refine (rOffers_is xs1 A1 len1 cap1 true _ HX2.out HLn.out HO.out).mono ?_)
  rintro e w3 ⟨rfl, hb⟩
  have HX3 := Lib.hid (HX2.out.below hb)
  have k0 := k0'.below hb k0'.lt
  have hB := below_next hb hB2 hB2.size
  clear k0' hB2 hb HX2
  obtain ⟨c0, c1, c2, c3, c4, _⟩ := Whole.route (r := ⟨ro, rr, rl, rk, rp⟩) k0
  simp only at c0 c1 c2 c3 c4
  go_wp2_with fail
  (with_reducible refine (start_is false ro ⟨ro, 1000000, ro, 0, -1⟩ _ HS.out).mono ?_)
  rintro e w4 ⟨rfl, hb⟩
  have HX4 := Lib.hid (HX3.out.below hb)
  have k0' := k0.below hb k0.lt
  have hB4 := below_next hb hB hB.size
  clear k0 hB hb HX3 c0 c1 c2 c3 c4
  have lt4 := k0'.lt
  go_wp2_with fail
  have HX5 := Lib.hid (HX4.out.below (((Below.refl _ _).alloc (Nat.le_refl _) (.cells #[.int .i64 ro, .int .i64 1000000, .int .i64 ro, .int .i64 0, .int .i64 (-1)] 43))))
  (with_reducible refine (choose_v ro 1000000 ro 0 (-1) ⟨no, nr, nl, nk, np⟩ xs1 A1 len1 cap1 _ HX5.out HLn.out HN.out).mono ?_)
  rintro e w5 ⟨rfl, hb⟩
  have HX6 := Lib.hid (HX5.out.below hb)
  have k0 := (k0'.alloc (.cells #[.int .i64 ro, .int .i64 1000000, .int .i64 ro, .int .i64 0, .int .i64 (-1)] 43)).below hb (by simp; omega)
  have k1 := (Whole.new w4 43 #[.int .i64 ro, .int .i64 1000000, .int .i64 ro, .int .i64 0, .int .i64 (-1)]).below hb (by simp)
  have hB5 := below_next hb (hB4.alloc hB4.size (.cells #[.int .i64 ro, .int .i64 1000000, .int .i64 ro, .int .i64 0, .int .i64 (-1)] 43)) (by have := hB4.size; simp; omega)
  have t0 : TI w (w5.alloc (.cells #[.int .i64 no, .int .i64 nr, .int .i64 nl, .int .i64 nk, .int .i64 np] 43)) w4.heap.size w5.heap.size ⟨ro, rr, rl, rk, rp⟩ ⟨ro, 1000000, ro, 0, -1⟩ ⟨no, nr, nl, nk, np⟩ :=
    ⟨hB5.alloc hB5.size _, k0.alloc _, k1.alloc _, Whole.new w5 43 _⟩
  have T0 := Lib.hid t0
  have HX7 := Lib.hid (HX6.out.below ((Below.refl _ _).alloc (Nat.le_refl _) (.cells #[.int .i64 no, .int .i64 nr, .int .i64 nl, .int .i64 nk, .int .i64 np] 43)))
  clear t0 HX6 HX5 HX4 hB5 hB4 k0 k1 hb k0' lt4
  go_wp2_with fail
  go_loopw [8, 35] (fun g i wr => ∃ k : Nat, k ≤ len1 ∧ i = .int .i64 k ∧ g = .bool ((xs1.take k).any (greatB ro)) ∧ TI w wr w4.heap.size w5.heap.size ⟨ro, rr, rl, rk, rp⟩ ⟨ro, 1000000, ro, 0, -1⟩ ⟨no, nr, nl, nk, np⟩) (fun _ i _ => len1 - (intOf i).toNat)
  case atStart => exact ⟨0, by omega, rfl, rfl, T0.out⟩
  case round =>
    obtain ⟨k, hk, rfl, rfl, hI⟩ := hrel
    by_cases hlt : k < len1
    · obtain ⟨b, off, ⟨p, s, rk', c⟩, rfl, hox, c0, c1, c2, c3⟩ := (HX.out.below hI.acc).at_ hlt
      simp only at c0 c1 c2 c3
      have HO1 := Lib.hid hox
      obtain ⟨b0, b1, ⟨b2, b3, b4, b5⟩, b6, b7⟩ := off_bd (offs_mem HO.out.symm (List.mem_of_getElem? hox))
      simp only at b0 b1 b2 b3 b4 b5 b6 b7
      clear hox
      obtain ⟨d0, d1, d2, d3, d4, _⟩ := hI.k0.route
      simp only at d0 d1 d2 d3 d4
      have lt0 := hI.k0.lt
      rcases Bool.eq_false_or_eq_true ((xs1.take k).any (greatB ro)) with hg | hg
      · rw [hg]
        have hnx : (xs1.take (k + 1)).any (greatB ro) = true := by rw [any_step _ HO1.out, hg]; rfl
        have HNX := Lib.hid hnx
        clear hg hnx
        go_wp2
        go_roundw
        case rel => exact ⟨k + 1, by omega, by go_num, by rw [HNX.out], hI.below ((Below.refl _ _).alloc (Nat.le_refl _) _)⟩
        case measure => simp [intOf]; omega
      · rw [hg]
        obtain ⟨gv, hgv⟩ : ∃ x, x = greatB ro ⟨p, s, rk', c⟩ := ⟨_, rfl⟩
        have hnx : (xs1.take (k + 1)).any (greatB ro) = gv := by rw [any_step _ HO1.out, hg, hgv]; rfl
        have HNX := Lib.hid hnx
        clear hg hnx
        unfold greatB at hgv
        simp only at hgv
        by_cases h1 : ro < s
        · by_cases h2 : rk' + c < 1000000
          · obtain rfl : gv = true := by rw [hgv]; exact decide_eq_true ⟨h1, h2⟩
            clear hgv
            go_wp2
            go_roundw
            case rel => exact ⟨k + 1, by omega, by go_num, by rw [HNX.out], hI.below ((Below.refl _ _).alloc (Nat.le_refl _) _)⟩
            case measure => simp [intOf]; omega
          · obtain rfl : gv = false := by rw [hgv]; exact decide_eq_false (fun h => h2 h.2)
            clear hgv
            have h2' : decide (rk' + c < 1000000) = false := decide_eq_false h2
            go_wp2
            go_roundw
            case rel => exact ⟨k + 1, by omega, by go_num, by rw [HNX.out], hI.below ((Below.refl _ _).alloc (Nat.le_refl _) _)⟩
            case measure => simp [intOf]; omega
        · obtain rfl : gv = false := by rw [hgv]; exact decide_eq_false (fun h => h1 h.1)
          clear hgv
          have h2' : decide (ro < s) = false := decide_eq_false h1
          go_wp2
          go_roundw
          case rel => exact ⟨k + 1, by omega, by go_num, by rw [HNX.out], hI.below ((Below.refl _ _).alloc (Nat.le_refl _) _)⟩
          case measure => simp [intOf]; omega
    · have hkl : k = xs1.length := by have := HX.out.1; omega
      have htk : xs1.take k = xs1 := by rw [hkl, List.take_length]
      rw [htk]
      clear hkl htk
      obtain ⟨d0, d1, d2, d3, d4, _⟩ := hI.k0.route
      obtain ⟨e0, e1, e2, e3, e4, _⟩ := hI.k1.route
      obtain ⟨f0, f1, f2, f3, f4, _⟩ := hI.k2.route
      simp only at d0 d1 d2 d3 d4 e0 e1 e2 e3 e4 f0 f1 f2 f3 f4
      rcases KEY.out with ⟨hg, hp⟩ | ⟨hg, hn1, hbb⟩
      · rw [hg]
        have hp' : decide (0 ≤ np) = true := decide_eq_true hp
        go_wp2
        go_ret
        exact ⟨rfl, hI.acc⟩
      · rw [hg]
        cases hn1
        have HBB := Lib.hid hbb.symm
        clear hbb
        go_wp2_with (go_at_call 19; (with_reducible refine (better_is ro 1000000 ro rr false _ HBB.out).mono ?_); rintro e w6 ⟨rfl, hb⟩)
        go_ret
        exact ⟨rfl, below_next hb hI.acc hI.acc.size⟩

set_option maxRecDepth 100000 in
theorem lifted (os : Os) (started : os.Started) (H : Type) (enc : TypeId × Value → H) :
    ReturnsInHanded {} Try.checked os 4 .any (Rows.rankRestartSpec.pre6 enc Try.prog Try.f4 Rows.rankRestartRow.domain false) (Rows.rankRestartSpec.post enc Try.prog Try.f4 false true false false) := by
  refine returnsInHanded_of_change (C := Try.checked) own started (by kernel_rfl) Try.func4
    (ChangeSpec.witness6 (enc := enc) (C := Try.checked) false ⟨#[], #[.agg #[.int .i64 0, .int .i64 0, .int .i64 0, .int .i64 0, .int .i64 0], .slice none 0 0], []⟩ 8 (by kernel_rfl) (by kernel_rfl) (by kernel_rfl) (by kernel_rfl)) ?_
  intro W base args ds gs before hval0 hW hcnd _
  have hval : ∀ (j : Nat) t v, Try.f4.params[j]? = some t → args[j]? = some v → Value.okWide Try.prog W .any base t v := hval0
  have hW' := hW
  obtain ⟨p, q, hA0, hV, rfl, hfz, hnd⟩ := hW
  have hA : DataW.TrodAll enc Try.prog W 0 (fun _ => true) true Try.f4.params.toList args.toList ds p := hA0
  rw [Try.params4] at hA hval
  obtain ⟨v0, vs0, d0, ds0, p0, q0, hargs, rfl, rfl, h0, z0⟩ := trodAll_cons hA
  obtain ⟨v1, vs1, d1, ds1, p1, q1, rfl, rfl, rfl, h1, z1⟩ := trodAll_cons z0
  obtain ⟨rfl, rfl, rfl⟩ := trodAll_nil z1
  obtain rfl : args = #[v0, v1] := by cases args; simp_all
  obtain ⟨rfl, rfl⟩ := trodVars_none hV
  have k0 := h0
  have lt0 : ∀ x ∈ p0, x.block < W.heap.size := by obtain ⟨m, hm⟩ := k0; exact DataW.trod_lt m _ _ _ hm
  obtain ⟨r0, rfl⟩ := open_rte (hval 0 43 v0 rfl rfl) h0
  have k1 := h1
  have lt1 : ∀ x ∈ p1, x.block < W.heap.size := by obtain ⟨m, hm⟩ := k1; exact DataW.trod_lt m _ _ _ hm
  obtain ⟨A1, len1, cap1, xs1, rfl, hl1, hm1, hx1⟩ := open_offs (hval 1 37 v1 rfl rfl) h1
  clear hA0 hval0
  refine (walk r0 A1 len1 cap1 xs1 W hx1 hl1 hm1).mono fun e W' ⟨he, hg⟩ => ?_
  subst he
  exact ⟨_, rfl, _, _, _, [], _, [], hW', trodAll_mk1 (shut_bool Try.underlying4 _), (trodAll_cons_mk (Below.trod laidOut (by kernel_rfl) (of_decide_eq_true (by kernel_rfl)) k0 hg lt0) (trodAll_cons_mk (Below.trod laidOut (by kernel_rfl) (of_decide_eq_true (by kernel_rfl)) k1 hg lt1) trodAll_mk0)), rfl, hg.frame _, fun h => by cases h⟩

theorem over : Rows.rankRestartRow.holds Try.pinned (OpenSpec.ofChange Rows.rankRestartSpec) :=
  OpenClaim.holds_of_wide 4 Try.f4 rfl rfl rfl rfl rfl rfl rfl ⟨rfl, rfl, rfl, rfl, rfl⟩ rfl rfl rfl rfl rfl (by kernel_rfl) Try.func4 (by kernel_rfl)
    (of_decide_eq_true (by kernel_rfl)) (by unfold Func.isWrapper; rw [if_neg (of_decide_eq_false (by kernel_rfl))]; exact ⟨rfl, rfl⟩)
    (fun os started H enc _ => lifted os started H enc)

theorem proved : Rows.RankRestartSaid := over
#print axioms proved
end Go.Proofs.Ytefnjhdmpnfacaa.rankRestart
