/- If a node chooses a parent by an offer that is not better than the parent's Least, and its Least was worse than the parent's Least if it was the parent before, its own Least is worse than the parent's Least afterwards. -/
import Derived.Test.YtefnjhdmpnfacaaFrame
import Derived.Test.YtefnjhdmpnfacaaLaws
namespace Go.Proofs.Ytefnjhdmpnfacaa.rankDownhill
open Go.ChangeShapes Go.WideShapes Go.ChangeAt Go.RowKit Go.BigFrame
set_option linter.unusedVariables false

theorem nodup_inj : ∀ {l : List Off}, (l.map Off.peer).Nodup → ∀ {a b : Off}, a ∈ l → b ∈ l → a.peer = b.peer → a = b
  | [], _, _, _, h, _, _ => by cases h
  | x :: l, hn, a, b, ha, hb, e => by
    rw [List.map_cons, List.nodup_cons] at hn
    rcases List.mem_cons.1 ha with rfl | ha' <;> rcases List.mem_cons.1 hb with rfl | hb'
    · rfl
    · exact absurd (List.mem_map.2 ⟨b, hb', e.symm⟩) hn.1
    · exact absurd (List.mem_map.2 ⟨a, ha', e⟩) hn.1
    · exact nodup_inj hn.2 ha' hb' e
theorem offs_inj {xs : List Off} (h : offsB xs = true) {a b : Off} (ha : a ∈ xs) (hb : b ∈ xs) (e : a.peer = b.peer) : a = b := by
  simp only [offsB, Bool.and_eq_true, decide_eq_true_eq] at h
  exact nodup_inj h.2 ha hb e

theorem downhill_key (r : Rte) (xs : List Off) (n : Rte) (s x : Int) (hv : rteB r = true) (ho : offsB xs = true) (hn : n = chooseF r xs) :
    ∀ o ∈ xs, o.peer = n.par → betB o.seq o.rank s x = false → (o.peer = r.par → betB s x r.ls r.lr = true) → betB s x n.ls n.lr = true := by
  intro o hm hp hb hpar
  obtain ⟨b0, b1, ⟨b2, b3, b4, b5⟩, b6, b7⟩ := off_bd (offs_mem ho hm)
  rcases choose_two hv ho with ⟨h1, h2⟩ | ⟨b, hbm, h1, _, h2⟩
  · rw [hn, h2] at hp
    simp only at hp
    omega
  · have hb2 : n.par = b.peer := by
      rw [hn, h2]; unfold takeF; split <;> rfl
    obtain rfl := offs_inj ho hm hbm (hp.trans hb2)
    rw [poss_iff] at h1
    rw [hn, h2]
    rw [bet_nif] at hb
    unfold takeF
    split
    · simp only
      exact bet_t (by omega)
    · simp only
      by_cases hq : o.peer = r.par
      · exact hpar hq
      · exact bet_t (by omega)

structure DI (w wr : World) (nb : Nat) (r : Rte) (s x : Int) (n : Rte) : Prop where
  acc : Below w.heap.size w wr
  k0 : Whole wr w.heap.size 43 r.cells
  k1 : Whole wr (w.heap.size + 1) 41 #[.int .i64 s, .int .i64 x]
  k2 : Whole wr nb 43 n.cells
theorem DI.below {w wr wx : World} {nb : Nat} {r n : Rte} {s x : Int} (h : DI w wr nb r s x n) (hb : Below wr.heap.size wr wx) : DI w wx nb r s x n :=
  ⟨below_next hb h.acc h.acc.size, h.k0.below hb h.k0.lt, h.k1.below hb h.k1.lt, h.k2.below hb h.k2.lt⟩

set_option maxHeartbeats 8000000 in
set_option maxRecDepth 100000 in
theorem walk (r0 : Rte) (A1 : Option Addr) (len1 cap1 : Nat) (xs1 : List Off) (s2 x2 : Int) (w : World) (hx1 : Offs w A1 len1 xs1) (hl1 : len1 ≤ cap1) (hm1 : cap1 ≤ maxLen) :
    Calls Try.prog 9 #[.agg r0.cells, .slice A1 len1 cap1, .agg #[.int .i64 s2, .int .i64 x2]] w fun e w' => e = .returned (.bool true) ∧ Below w.heap.size w w' := by
  obtain ⟨ro, rr, rl, rk, rp⟩ := r0
  unfold Rte.cells
  simp only
  have HX := Lib.hid hx1
  clear hx1
  by_cases hn : 80 < len1
  · have hn' : (80 : Int) < (len1 : Int) := by omega
    go_enter Try.func9, Try.ntmps9
    go_wp2_with fail
    (with_reducible refine (head_any _).mono ?_)
    rintro e w1 ⟨rfl, hb⟩
    go_wp2
    go_ret
    exact ⟨rfl, below_next hb (((Below.refl w.heap.size w).alloc (Nat.le_refl _) (.cells #[.int .i64 ro, .int .i64 rr, .int .i64 rl, .int .i64 rk, .int .i64 rp] 43)).alloc (by simp) (.cells #[.int .i64 s2, .int .i64 x2] 41)) (by simp; omega)⟩
  have hn' : ¬ (80 : Int) < (len1 : Int) := by omega
  have hlen : len1 ≤ 1000000 := by omega
  have HLn := Lib.hid hlen
  clear hlen
  rcases Bool.eq_false_or_eq_true (rteB ⟨ro, rr, rl, rk, rp⟩) with hv | hv
  rotate_left
  · have HV := Lib.hid hv.symm
    clear hv
    go_enter Try.func9, Try.ntmps9
    go_wp2_with fail
    (with_reducible refine (head_any _).mono ?_)
    rintro e w1 ⟨rfl, hb⟩
    have k0 := ((Whole.new w 43 #[.int .i64 ro, .int .i64 rr, .int .i64 rl, .int .i64 rk, .int .i64 rp]).alloc (.cells #[.int .i64 s2, .int .i64 x2] 41)).below hb (by simp; omega)
    have k1 := (Whole.new_at (w := w.alloc (.cells #[.int .i64 ro, .int .i64 rr, .int .i64 rl, .int .i64 rk, .int .i64 rp] 43)) (n := w.heap.size + 1) (t := 41) (cs := #[.int .i64 s2, .int .i64 x2]) (by simp)).below hb (by simp)
    have hB := below_next hb (((Below.refl w.heap.size w).alloc (Nat.le_refl _) (.cells #[.int .i64 ro, .int .i64 rr, .int .i64 rl, .int .i64 rk, .int .i64 rp] 43)).alloc (by simp) (.cells #[.int .i64 s2, .int .i64 x2] 41)) (by simp; omega)
    clear hb
    have HX1 := Lib.hid (HX.out.below hB)
    obtain ⟨c0, c1, c2, c3, c4, _⟩ := Whole.route (r := ⟨ro, rr, rl, rk, rp⟩) k0
    simp only at c0 c1 c2 c3 c4
    go_wp2_with fail
    (with_reducible refine (rvalid_is ro rr rl rk rp false _ HV.out).mono ?_)
    rintro e w2 ⟨rfl, hb⟩
    go_wp2
    go_ret
    exact ⟨rfl, below_next hb hB hB.size⟩
  have HV := Lib.hid hv.symm
  rcases Bool.eq_false_or_eq_true (offsB xs1) with ho | ho
  rotate_left
  · have HO := Lib.hid ho.symm
    clear hv ho
    go_enter Try.func9, Try.ntmps9
    go_wp2_with fail
    (with_reducible refine (head_any _).mono ?_)
    rintro e w1 ⟨rfl, hb⟩
    have k0 := ((Whole.new w 43 #[.int .i64 ro, .int .i64 rr, .int .i64 rl, .int .i64 rk, .int .i64 rp]).alloc (.cells #[.int .i64 s2, .int .i64 x2] 41)).below hb (by simp; omega)
    have k1 := (Whole.new_at (w := w.alloc (.cells #[.int .i64 ro, .int .i64 rr, .int .i64 rl, .int .i64 rk, .int .i64 rp] 43)) (n := w.heap.size + 1) (t := 41) (cs := #[.int .i64 s2, .int .i64 x2]) (by simp)).below hb (by simp)
    have hB := below_next hb (((Below.refl w.heap.size w).alloc (Nat.le_refl _) (.cells #[.int .i64 ro, .int .i64 rr, .int .i64 rl, .int .i64 rk, .int .i64 rp] 43)).alloc (by simp) (.cells #[.int .i64 s2, .int .i64 x2] 41)) (by simp; omega)
    clear hb
    have HX1 := Lib.hid (HX.out.below hB)
    obtain ⟨c0, c1, c2, c3, c4, _⟩ := Whole.route (r := ⟨ro, rr, rl, rk, rp⟩) k0
    simp only at c0 c1 c2 c3 c4
    go_wp2_with fail
    (with_reducible refine (rvalid_is ro rr rl rk rp true _ HV.out).mono ?_)
    rintro e w2 ⟨rfl, hb⟩
    have HX2 := Lib.hid (HX1.out.below hb)
    clear c0 c1 c2 c3 c4
    have hB2 := below_next hb hB hB.size
    go_wp2_with fail
    (with_reducible refine (rOffers_is xs1 A1 len1 cap1 false _ HX2.out HLn.out HO.out).mono ?_)
    rintro e w3 ⟨rfl, hb3⟩
    go_wp2
    go_ret
    exact ⟨rfl, below_next hb3 hB2 hB2.size⟩
  have HO := Lib.hid ho.symm
  obtain ⟨n, hnn⟩ : ∃ n, n = chooseF ⟨ro, rr, rl, rk, rp⟩ xs1 := ⟨_, rfl⟩
  have KEY := Lib.hid (downhill_key ⟨ro, rr, rl, rk, rp⟩ xs1 n s2 x2 hv ho hnn)
  have HN := Lib.hid hnn
  clear hv ho hnn
  obtain ⟨no, nr, nl, nk, np⟩ := n
  go_enter Try.func9, Try.ntmps9
  go_wp2_with fail
  (with_reducible refine (head_any _).mono ?_)
  rintro e w1 ⟨rfl, hb⟩
  have k0 := ((Whole.new w 43 #[.int .i64 ro, .int .i64 rr, .int .i64 rl, .int .i64 rk, .int .i64 rp]).alloc (.cells #[.int .i64 s2, .int .i64 x2] 41)).below hb (by simp; omega)
  have k1 := (Whole.new_at (w := w.alloc (.cells #[.int .i64 ro, .int .i64 rr, .int .i64 rl, .int .i64 rk, .int .i64 rp] 43)) (n := w.heap.size + 1) (t := 41) (cs := #[.int .i64 s2, .int .i64 x2]) (by simp)).below hb (by simp)
  have hB := below_next hb (((Below.refl w.heap.size w).alloc (Nat.le_refl _) (.cells #[.int .i64 ro, .int .i64 rr, .int .i64 rl, .int .i64 rk, .int .i64 rp] 43)).alloc (by simp) (.cells #[.int .i64 s2, .int .i64 x2] 41)) (by simp; omega)
  clear hb
  have HX1 := Lib.hid (HX.out.below hB)
  obtain ⟨c0, c1, c2, c3, c4, _⟩ := Whole.route (r := ⟨ro, rr, rl, rk, rp⟩) k0
  simp only at c0 c1 c2 c3 c4
  go_wp2_with fail
  (with_reducible refine (rvalid_is ro rr rl rk rp true _ HV.out).mono ?_)
  rintro e w2 ⟨rfl, hb⟩
  have HX2 := Lib.hid (HX1.out.below hb)
  clear c0 c1 c2 c3 c4 HX1
  have k0' := k0.below hb k0.lt
  have k1' := k1.below hb k1.lt
  have hB2 := below_next hb hB hB.size
  clear k0 k1 hB hb
  go_wp2_with fail
  (with_reducible refine (rOffers_is xs1 A1 len1 cap1 true _ HX2.out HLn.out HO.out).mono ?_)
  rintro e w3 ⟨rfl, hb⟩
  have HX3 := Lib.hid (HX2.out.below hb)
  have k0 := k0'.below hb k0'.lt
  have k1 := k1'.below hb k1'.lt
  have hB := below_next hb hB2 hB2.size
  clear k0' k1' hB2 hb HX2
  obtain ⟨c0, c1, c2, c3, c4, _⟩ := Whole.route (r := ⟨ro, rr, rl, rk, rp⟩) k0
  simp only at c0 c1 c2 c3 c4
  go_wp2_with fail
  (with_reducible refine (choose_v ro rr rl rk rp ⟨no, nr, nl, nk, np⟩ xs1 A1 len1 cap1 _ HX3.out HLn.out HN.out).mono ?_)
  rintro e w5 ⟨rfl, hb⟩
  have t0 : DI w (w5.alloc (.cells #[.int .i64 no, .int .i64 nr, .int .i64 nl, .int .i64 nk, .int .i64 np] 43)) w5.heap.size ⟨ro, rr, rl, rk, rp⟩ s2 x2 ⟨no, nr, nl, nk, np⟩ :=
    ⟨(below_next hb hB hB.size).alloc (below_next hb hB hB.size).size _, (k0.below hb k0.lt).alloc _, (k1.below hb k1.lt).alloc _, Whole.new w5 43 _⟩
  have T0 := Lib.hid t0
  clear t0 hB k0 k1 hb c0 c1 c2 c3 c4
  go_wp2_with fail
  go_loopw [31] (fun i wr => ∃ k : Nat, k ≤ len1 ∧ i = .int .i64 k ∧ DI w wr w5.heap.size ⟨ro, rr, rl, rk, rp⟩ s2 x2 ⟨no, nr, nl, nk, np⟩) (fun i _ => len1 - (intOf i).toNat)
  case atStart => exact ⟨0, by omega, rfl, T0.out⟩
  case round =>
    obtain ⟨k, hk, rfl, hI⟩ := hrel
    by_cases hlt : k < len1
    · obtain ⟨b, off, ⟨p, s, rk', c⟩, rfl, hox, c0, c1, c2, c3⟩ := (HX.out.below hI.acc).at_ hlt
      simp only at c0 c1 c2 c3
      have KEY1 := Lib.hid (KEY.out _ (List.mem_of_getElem? hox))
      clear hox
      obtain ⟨d0, d1, d2, d3, d4, _⟩ := hI.k0.route
      obtain ⟨f0, f1, f2, f3, f4, _⟩ := hI.k2.route
      have g0 := hI.k1.cell 0
      have g1 := hI.k1.cell 1
      simp at g0 g1
      simp only at d0 d1 d2 d3 d4 f0 f1 f2 f3 f4
      have lt0 := hI.k0.lt
      have lt1 := hI.k1.lt
      have lt2 := hI.k2.lt
      by_cases hp : p = np
      rotate_left
      · have hp' : (p == np) = false := by simpa using hp
        go_wp2
        go_roundw
        case rel => exact ⟨k + 1, by omega, by go_num, hI.below ((Below.refl _ _).alloc (Nat.le_refl _) _)⟩
        case measure => simp [intOf]; omega
      subst hp
      rcases Bool.eq_false_or_eq_true (betB s rk' s2 x2) with hb1 | hb1
      · have H1 := Lib.hid hb1.symm
        clear hb1
        go_wp2_with (go_at_call 19; (with_reducible refine (better_is s rk' s2 x2 true _ H1.out).mono ?_); rintro e w6 ⟨rfl, hb⟩)
        go_roundw
        case rel => exact ⟨k + 1, by omega, by go_num, hI.below (below_next hb ((Below.refl _ _).alloc (Nat.le_refl _) _) (by simp))⟩
        case measure => simp [intOf]; omega
      have H1 := Lib.hid hb1.symm
      by_cases hq : p = rp
      · subst hq
        rcases Bool.eq_false_or_eq_true (betB s2 x2 rl rk) with hb2 | hb2
        rotate_left
        · have H2 := Lib.hid hb2.symm
          clear hb1 hb2
          go_wp2_with fail
          (with_reducible refine (better_is s rk' s2 x2 false _ H1.out).mono ?_)
          rintro e w6 ⟨rfl, hb⟩
          have hI6 := hI.below (below_next hb ((Below.refl _ _).alloc (Nat.le_refl _) _) (by simp))
          have kO := (Whole.new wr 45 (Off.cells ⟨p, s, rk', c⟩)).below hb (by simp)
          clear c0 c1 c2 c3 d0 d1 d2 d3 d4 f0 f1 f2 f3 f4 g0 g1 lt0 lt1 lt2 hb
          obtain ⟨c0, c1, c2, c3, _⟩ := kO.offer
          obtain ⟨d0, d1, d2, d3, d4, _⟩ := hI6.k0.route
          obtain ⟨f0, f1, f2, f3, f4, _⟩ := hI6.k2.route
          have g0 := hI6.k1.cell 0
          have g1 := hI6.k1.cell 1
          simp at g0 g1
          simp only at d0 d1 d2 d3 d4 f0 f1 f2 f3 f4 c0 c1 c2 c3
          go_wp2_with (go_at_call 19; (with_reducible refine (better_is s2 x2 rl rk false _ H2.out).mono ?_); rintro e w7 ⟨rfl, hb7⟩)
          go_roundw
          case rel => exact ⟨k + 1, by omega, by go_num, hI6.below hb7⟩
          case measure => simp [intOf]; omega
        · have H2 := Lib.hid hb2.symm
          have H3 := Lib.hid (KEY1.out rfl hb1 (fun _ => hb2)).symm
          clear hb1 hb2
          go_wp2_with fail
          (with_reducible refine (better_is s rk' s2 x2 false _ H1.out).mono ?_)
          rintro e w6 ⟨rfl, hb⟩
          have hI6 := hI.below (below_next hb ((Below.refl _ _).alloc (Nat.le_refl _) _) (by simp))
          have kO := (Whole.new wr 45 (Off.cells ⟨p, s, rk', c⟩)).below hb (by simp)
          clear c0 c1 c2 c3 d0 d1 d2 d3 d4 f0 f1 f2 f3 f4 g0 g1 lt0 lt1 lt2 hb
          obtain ⟨c0, c1, c2, c3, _⟩ := kO.offer
          obtain ⟨d0, d1, d2, d3, d4, _⟩ := hI6.k0.route
          obtain ⟨f0, f1, f2, f3, f4, _⟩ := hI6.k2.route
          have g0 := hI6.k1.cell 0
          have g1 := hI6.k1.cell 1
          simp at g0 g1
          simp only at d0 d1 d2 d3 d4 f0 f1 f2 f3 f4 c0 c1 c2 c3
          go_wp2_with fail
          (with_reducible refine (better_is s2 x2 rl rk true _ H2.out).mono ?_)
          rintro e w7 ⟨rfl, hb7⟩
          have hI7 := hI6.below hb7
          clear c0 c1 c2 c3 d0 d1 d2 d3 d4 f0 f1 f2 f3 f4 g0 g1 hb7
          obtain ⟨d0, d1, d2, d3, d4, _⟩ := hI7.k0.route
          obtain ⟨f0, f1, f2, f3, f4, _⟩ := hI7.k2.route
          have g0 := hI7.k1.cell 0
          have g1 := hI7.k1.cell 1
          simp at g0 g1
          simp only at d0 d1 d2 d3 d4 f0 f1 f2 f3 f4
          go_wp2_with (go_at_call 19; (with_reducible refine (better_is s2 x2 nl nk true _ H3.out).mono ?_); rintro e w8 ⟨rfl, hb8⟩)
          go_roundw
          case rel => exact ⟨k + 1, by omega, by go_num, hI7.below hb8⟩
          case measure => simp [intOf]; omega
      · have hq' : (p != rp) = true := by simpa using hq
        have H3 := Lib.hid (KEY1.out rfl hb1 (fun h => absurd h hq)).symm
        clear hb1
        go_wp2_with fail
        (with_reducible refine (better_is s rk' s2 x2 false _ H1.out).mono ?_)
        rintro e w6 ⟨rfl, hb⟩
        have hI6 := hI.below (below_next hb ((Below.refl _ _).alloc (Nat.le_refl _) _) (by simp))
        have kO := (Whole.new wr 45 (Off.cells ⟨p, s, rk', c⟩)).below hb (by simp)
        clear c0 c1 c2 c3 d0 d1 d2 d3 d4 f0 f1 f2 f3 f4 g0 g1 lt0 lt1 lt2 hb
        obtain ⟨c0, c1, c2, c3, _⟩ := kO.offer
        obtain ⟨d0, d1, d2, d3, d4, _⟩ := hI6.k0.route
        obtain ⟨f0, f1, f2, f3, f4, _⟩ := hI6.k2.route
        have g0 := hI6.k1.cell 0
        have g1 := hI6.k1.cell 1
        simp at g0 g1
        simp only at d0 d1 d2 d3 d4 f0 f1 f2 f3 f4 c0 c1 c2 c3
        go_wp2_with (go_at_call 19; (with_reducible refine (better_is s2 x2 nl nk true _ H3.out).mono ?_); rintro e w7 ⟨rfl, hb7⟩)
        go_roundw
        case rel => exact ⟨k + 1, by omega, by go_num, hI6.below hb7⟩
        case measure => simp [intOf]; omega
    · go_wp2
      go_ret
      exact ⟨rfl, hI.acc⟩

set_option maxRecDepth 100000 in
theorem lifted (os : Os) (started : os.Started) (H : Type) (enc : TypeId × Value → H) :
    ReturnsInHanded {} Try.checked os 9 .any (Rows.rankDownhillSpec.pre6 enc Try.prog Try.f9 Rows.rankDownhillRow.domain false) (Rows.rankDownhillSpec.post enc Try.prog Try.f9 false true false false) := by
  refine returnsInHanded_of_change (C := Try.checked) own started (by kernel_rfl) Try.func9
    (ChangeSpec.witness6 (enc := enc) (C := Try.checked) false ⟨#[], #[.agg #[.int .i64 0, .int .i64 0, .int .i64 0, .int .i64 0, .int .i64 0], .slice none 0 0, .agg #[.int .i64 0, .int .i64 0]], []⟩ 8 (by kernel_rfl) (by kernel_rfl) (by kernel_rfl) (by kernel_rfl)) ?_
  intro W base args ds gs before hval0 hW hcnd _
  have hval : ∀ (j : Nat) t v, Try.f9.params[j]? = some t → args[j]? = some v → Value.okWide Try.prog W .any base t v := hval0
  have hW' := hW
  obtain ⟨p, q, hA0, hV, rfl, hfz, hnd⟩ := hW
  have hA : DataW.TrodAll enc Try.prog W 0 (fun _ => true) true Try.f9.params.toList args.toList ds p := hA0
  rw [Try.params9] at hA hval
  obtain ⟨v0, vs0, d0, ds0, p0, q0, hargs, rfl, rfl, h0, z0⟩ := trodAll_cons hA
  obtain ⟨v1, vs1, d1, ds1, p1, q1, rfl, rfl, rfl, h1, z1⟩ := trodAll_cons z0
  obtain ⟨v2, vs2, d2, ds2, p2, q2, rfl, rfl, rfl, h2, z2⟩ := trodAll_cons z1
  obtain ⟨rfl, rfl, rfl⟩ := trodAll_nil z2
  obtain rfl : args = #[v0, v1, v2] := by cases args; simp_all
  obtain ⟨rfl, rfl⟩ := trodVars_none hV
  have k0 := h0
  have lt0 : ∀ x ∈ p0, x.block < W.heap.size := by obtain ⟨m, hm⟩ := k0; exact DataW.trod_lt m _ _ _ hm
  obtain ⟨r0, rfl⟩ := open_rte (hval 0 43 v0 rfl rfl) h0
  have k1 := h1
  have lt1 : ∀ x ∈ p1, x.block < W.heap.size := by obtain ⟨m, hm⟩ := k1; exact DataW.trod_lt m _ _ _ hm
  obtain ⟨A1, len1, cap1, xs1, rfl, hl1, hm1, hx1⟩ := open_offs (hval 1 37 v1 rfl rfl) h1
  have k2 := h2
  have lt2 : ∀ x ∈ p2, x.block < W.heap.size := by obtain ⟨m, hm⟩ := k2; exact DataW.trod_lt m _ _ _ hm
  obtain ⟨s2, x2, rfl⟩ := open_dst (hval 2 41 v2 rfl rfl) h2
  clear hA0 hval0
  refine (walk r0 A1 len1 cap1 xs1 s2 x2 W hx1 hl1 hm1).mono fun e W' ⟨he, hg⟩ => ?_
  subst he
  exact ⟨_, rfl, _, _, _, [], _, [], hW', trodAll_mk1 (shut_bool Try.underlying4 _), (trodAll_cons_mk (Below.trod laidOut (by kernel_rfl) (of_decide_eq_true (by kernel_rfl)) k0 hg lt0) (trodAll_cons_mk (Below.trod laidOut (by kernel_rfl) (of_decide_eq_true (by kernel_rfl)) k1 hg lt1) (trodAll_cons_mk (Below.trod laidOut (by kernel_rfl) (of_decide_eq_true (by kernel_rfl)) k2 hg lt2) trodAll_mk0))), rfl, hg.frame _, fun h => by cases h⟩

theorem over : Rows.rankDownhillRow.holds Try.pinned (OpenSpec.ofChange Rows.rankDownhillSpec) :=
  OpenClaim.holds_of_wide 9 Try.f9 rfl rfl rfl rfl rfl rfl rfl ⟨rfl, rfl, rfl, rfl, rfl⟩ rfl rfl rfl rfl rfl (by kernel_rfl) Try.func9 (by kernel_rfl)
    (of_decide_eq_true (by kernel_rfl)) (by unfold Func.isWrapper; rw [if_neg (of_decide_eq_false (by kernel_rfl))]; exact ⟨rfl, rfl⟩)
    (fun os started H enc _ => lifted os started H enc)

theorem proved : Rows.RankDownhillSaid := over
#print axioms proved
end Go.Proofs.Ytefnjhdmpnfacaa.rankDownhill
