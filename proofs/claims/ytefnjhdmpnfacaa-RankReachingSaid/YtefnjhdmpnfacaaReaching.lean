/- After any moves, if the root takes a new sequence number, and then, for as many rounds as there are nodes, each node hears all its neighbours and chooses, every node that links connect with the root has a parent, and the parents lead to the root. -/
import Derived.Test.YtefnjhdmpnfacaaFrame
import Derived.Test.YtefnjhdmpnfacaaReachFrame
import Derived.Test.YtefnjhdmpnfacaaReachMem
import Derived.Test.YtefnjhdmpnfacaaMeshStart
import Derived.Deep.QuietTactic
import Derived.BigQuiet
import Derived.BigRegion
import Derived.OwnWalk
import Derived.Deep.CutRange
namespace Go.Proofs.Ytefnjhdmpnfacaa.rankReaching
open Go.ChangeShapes Go.WideShapes Go.ChangeAt Go.RowKit Go.BigFrame
set_option linter.unusedVariables false



set_option maxHeartbeats 8000000 in
set_option maxRecDepth 100000 in
theorem walk (a0 : Int) (A1 : Option Addr) (len1 cap1 : Nat) (ms1 : List Mv) (A2 : Option Addr) (len2 cap2 : Nat) (ks2 : List (Int × Int)) (w : World) (w0 : (Lit.int .u8 a0).wf = true) (hx1 : Moves w A1 len1 ms1) (hl1 : len1 ≤ cap1) (hm1 : cap1 ≤ maxLen) (hx2 : Links w A2 len2 ks2) (hl2 : len2 ≤ cap2) (hm2 : cap2 ≤ maxLen) :
    Calls Try.prog 3 #[.int .u8 a0, .slice A1 len1 cap1, .slice A2 len2 cap2] w fun e w' => e = .returned (.bool true) ∧ Below w.heap.size w w' := by
  have HX := Lib.hid hx1
  have HY := Lib.hid hx2
  obtain ⟨a00, a01⟩ := u8_bd w0
  clear hx1 hx2 w0
  by_cases hn : 100 < len1
  · have hn' : (100 : Int) < (len1 : Int) := by omega
    go_enter Try.func3, Try.ntmps3
    go_wp2_with fail
    (with_reducible refine (head_any _).mono ?_)
    rintro e w1 ⟨rfl, hb⟩
    go_wp2
    go_ret
    exact ⟨rfl, hb⟩
  have hn' : ¬ (100 : Int) < (len1 : Int) := by omega
  by_cases hq : 30 < len2
  · have hq' : (30 : Int) < (len2 : Int) := by omega
    go_enter Try.func3, Try.ntmps3
    go_wp2_with fail
    (with_reducible refine (head_any _).mono ?_)
    rintro e w1 ⟨rfl, hb⟩
    go_wp2
    go_ret
    exact ⟨rfl, hb⟩
  have hq' : ¬ (30 : Int) < (len2 : Int) := by omega
  obtain ⟨n, hnn⟩ : ∃ n : Nat, 2 + a0 % 7 = (n : Int) := ⟨(2 + a0 % 7).toNat, by omega⟩
  have hn2 : 2 ≤ n := by omega
  have hn8 : n ≤ 8 := by omega
  go_enter Try.func3, Try.ntmps3
  go_wp2_with fail
  (with_reducible refine (head_any _).mono ?_)
  rintro e w1 ⟨rfl, hb⟩
  have HB1 := Lib.hid hb
  clear hb
  go_wp2_with fail
  (with_reducible refine (mstart_is n _ hn2 hn8).mono ?_)
  rintro e w2 ⟨mb, R, T, H, cR, cT, cH, rfl, hX2, hb⟩
  obtain ⟨B, hBe⟩ : ∃ B, B = w1.heap.size := ⟨_, rfl⟩
  rw [← hBe] at hX2 hb
  have hBw : w.heap.size ≤ B := by rw [hBe]; exact HB1.out.size
  have hX2' : MeshX w2 B mb R T H cR cT cH n (fun _ => False) (after n (ms1.take 0)) := hX2
  have hB2 : Below w.heap.size w w2 := HB1.out.trans (hb.mono hBw)
  have hBs : B ≤ w2.heap.size := by rw [hBe]; exact hb.size
  have T0 := Lib.hid (And.intro hX2' (And.intro hB2 hBs))
  have HBW := Lib.hid hBw
  clear hX2 hX2' hb hB2 hBs hBe hBw HB1
  go_wp2_with fail
  go_loopw [40] (fun i wr => ∃ k : Nat, k ≤ len1 ∧ i = .int .i64 k ∧ MeshX wr B mb R T H cR cT cH n (fun _ => False) (after n (ms1.take k)) ∧ Below w.heap.size w wr ∧ B ≤ wr.heap.size) (fun i _ => len1 - (intOf i).toNat)
  case atStart => exact ⟨0, by omega, rfl, T0.out⟩
  case round =>
    obtain ⟨k, hk, rfl, hX, hbw, hBs⟩ := hrel
    by_cases hlt : k < len1
    · obtain ⟨b, off, ⟨wh, nd, sc, lt, co⟩, rfl, hbl, hox, hok, c0, c1, c2, c3, c4⟩ := HX.out.at_ hbw hlt
      simp only at c0 c1 c2 c3 c4
      have hlen := HX.out.1
      have hinv := (after_inv n (by omega) (by omega) (ms1.take k) (by rw [List.length_take]; omega)).1
      have hsm := hinv.small (by omega) (by rw [List.length_take]; omega)
      have hst := after_step n hox
      obtain ⟨m, hm⟩ : ∃ m, m = after n (ms1.take k) := ⟨_, rfl⟩
      rw [← hm] at hX hsm hst
      have HXM := Lib.hid hX
      have HSM := Lib.hid hsm
      have HST := Lib.hid hst
      have HBB := Lib.hid hbw
      have HBS := Lib.hid hBs
      have HOK := Lib.hid hok
      clear hX hinv hsm hst hm hbw hBs hok hox hlen
      go_wp2_with fail
      (with_reducible refine (apply_is (HXM.out.keep ((Far.refl _ _).alloc _)) (by have := HBS.out; simp; omega) hn2 hn8 HSM.out wh nd sc lt co HOK.out).mono ?_)
      rintro e w3 ⟨rfl, hX3, hb3⟩
      rw [← HST.out] at hX3
      have hb4 : Below w.heap.size w w3 := (HBB.out.alloc (Nat.le_trans HBW.out HBS.out) _).trans (hb3.below.mono HBW.out)
      have hB3 : B ≤ w3.heap.size := Nat.le_trans HBS.out (Nat.le_trans (by simp) hb3.size)
      have HX3 := Lib.hid hX3
      have HB4 := Lib.hid hb4
      have HB3 := Lib.hid hB3
      clear hX3 hb3 hb4 hB3 c0 c1 c2 c3 c4
      go_wp2_with fail
      go_roundw
      case rel => exact ⟨k + 1, by omega, by go_num, HX3.out, HB4.out, HB3.out⟩
      case measure => simp [intOf]; omega
    · obtain rfl : k = len1 := by omega
      have htk : ms1.take k = ms1 := by rw [← HX.out.1, List.take_length]
      rw [htk] at hX
      have hl1 : ms1.length ≤ 100 := by rw [HX.out.1]; omega
      have hl2 : ks2.length ≤ 30 := by rw [HY.out.1]; omega
      have T1 := Lib.hid (And.intro hX (And.intro hbw hBs))
      have HL := Lib.hid (And.intro hl1 hl2)
      clear hX hbw hBs htk hl1 hl2 T0
      obtain ⟨i4, hi4, hz1, hz2, hz3⟩ := info_parts info4
      have hb2 : i4.bytes * n ≤ 281474976710656 := by rw [hz3]; omega
      have hb3 : n ≤ maxLen := by unfold maxLen; omega
      go_upto_region 11 with fail
      go_cut [12] from 22 (fun v wx => v = .slice (some ⟨wr.heap.size, 0, none⟩) n n ∧ RX w wx B mb R T H cR cT cH n wr.heap.size (after n ms1) (fun _ => false))
      case first =>
        go_wp2_with (refine wpList_make_full _ rfl (.tmp 48) (.tmp 48) 31 rfl wr.heap.size 4 i4 (.bool false) 1 Try.underlying31 hi4 hz1 hz2 .i64 .i64 n n n (by rfl) (by rfl) rfl rfl hb2 hb3 (Nat.le_refl _) ?_; intro wj hown hgrow; have HRJ := Lib.hid (rx_made (by omega) T1.out.1 T1.out.2.1 ⟨HBW.out, T1.out.2.2⟩ hown hgrow); clear hown hgrow)
        go_meet
        exact ⟨rfl, HRJ.out⟩
      case rest =>
        obtain ⟨rfl, hR⟩ := hcut
        obtain ⟨J, hJe⟩ : ∃ J, J = wr.heap.size := ⟨_, rfl⟩
        rw [← hJe] at hR ⊢
        clear hi4 hz1 hz2 hz3 hb2 hb3 hJe T1
        obtain ⟨wa, hwa⟩ : ∃ wa, wa = wc := ⟨_, rfl⟩
        subst hwa
        obtain ⟨j0, f0⟩ := hR.ja 0 (by omega)
        have n0 : (0 : Int) < (n : Int) := by omega
        have HR := Lib.hid (hR.join 0 true (by omega))
        clear hR
        go_upto_region 13 with fail
        obtain ⟨wb, hwb⟩ : ∃ wb, wb = wa.setCell ⟨J, 0, none⟩ (.bool true) := ⟨_, rfl⟩
        have hRb : RX w wb B mb R T H cR cT cH n J (after n ms1) (jT n ks2 0) := by
          rw [hwb]
          have e : upd (fun _ => false) 0 true = jT n ks2 0 := by funext i; by_cases h : i = 0 <;> simp [upd, jT, h]
          rw [← e]
          exact HR.out
        rw [← hwb]
        have HRB := Lib.hid hRb
        clear HR hRb hwb j0 f0
        obtain ⟨tv, hv, lab, hM⟩ := HRB.out.mx
        obtain ⟨d2, _⟩ := hM.s2
        clear hM
        go_wp2_with fail
        go_loopw [57] (fun i wr => ∃ k : Nat, k ≤ n ∧ i = .int .i64 k ∧ RX w wr B mb R T H cR cT cH n J (forgetTo (after n ms1) k) (jT n ks2 0)) (fun i _ => n - (intOf i).toNat)
        case atStart => exact ⟨0, by omega, rfl, HRB.out⟩
        case round =>
          clear d2
          obtain ⟨k, hk, rfl, hR⟩ := hrel
          by_cases hlt : k < n
          · obtain ⟨tv, hv, lab, hM⟩ := hR.mx
            obtain ⟨d2, _⟩ := hM.s2
            obtain ⟨dh, df⟩ := hM.hh k hlt
            have k0 : (0 : Int) ≤ (k : Int) := Int.natCast_nonneg _
            have k1 : (k : Int) < (n : Int) := by omega
            obtain ⟨hx, hk2⟩ := forgot hR.mx hlt
            have HN := Lib.hid (hR.call (hk2 hR.hB.2) hx)
            clear hM hx hk2 hR
            go_wp2_with fail
            go_roundw
            case rel => exact ⟨k + 1, by omega, by go_num, HN.out⟩
            case measure => simp [intOf]; omega
          · obtain rfl : n = k := by omega
            have HR := Lib.hid hR
            have hsm := small_forget (ms := ms1) hn2 hn8 HL.out.1
            have HSM := Lib.hid hsm
            clear hR hsm
            go_wp2_with fail
            (with_reducible refine (apply_is HR.out.mx HR.out.hB.2 hn2 hn8 HSM.out 3 0 0 0 0 mv_three).mono ?_)
            rintro e w5 ⟨rfl, hX5, hb5⟩
            have hR0 : RX w w5 B mb R T H cR cT cH n J (mT n ks2 ms1 0) (jT n ks2 0) := by
              rw [step_three] at hX5
              exact HR.out.call hb5 hX5
            have HR0 := Lib.hid hR0
            clear hX5 hb5 hR0
            go_wp2_with fail
            go_loopw [71] (fun i wr => ∃ t : Nat, t ≤ n ∧ i = .int .i64 t ∧ RX w wr B mb R T H cR cT cH n J (mT n ks2 ms1 t) (jT n ks2 t)) (fun i _ => n - (intOf i).toNat)
            case atStart => exact ⟨0, by omega, rfl, HR0.out⟩
            case round =>
              obtain ⟨t, ht, rfl, hR⟩ := hrel
              by_cases htl : t < n
              · have HRt := Lib.hid hR
                clear hR
                go_wp2_with fail
                go_loopw [75] (fun i wr => ∃ k : Nat, k ≤ len2 ∧ i = .int .i64 k ∧ RX w wr B mb R T H cR cT cH n J ((ks2.take k).foldl (mlink n) (mT n ks2 ms1 t)) ((ks2.take k).foldl (jlink n) (jT n ks2 t))) (fun i _ => len2 - (intOf i).toNat)
                case atStart => exact ⟨0, by omega, rfl, HRt.out⟩
                case round =>
                  obtain ⟨k, hk, rfl, hR⟩ := hrel
                  by_cases hkl : k < len2
                  · obtain ⟨bq, oq, ⟨la, lb⟩, rfl, hbl, hox, ⟨⟨l0, l1⟩, l2, l3⟩, c0, c1⟩ := HY.out.at_ hR.acc hkl
                    simp only at l0 l1 l2 l3 c0 c1
                    have sm := link_snoc hox (mlink n) (mT n ks2 ms1 t)
                    have sj := link_snocj hox (jlink n) (jT n ks2 t)
                    have hin := inv_pass (t := t) hn2 hn8 HL.out.1 HL.out.2 (by omega) k
                    obtain ⟨q, hq⟩ : ∃ q, q = (ks2.take k).foldl (mlink n) (mT n ks2 ms1 t) := ⟨_, rfl⟩
                    obtain ⟨Jp, hJp⟩ : ∃ Jp, Jp = (ks2.take k).foldl (jlink n) (jT n ks2 t) := ⟨_, rfl⟩
                    rw [← hq] at sm hR hin
                    rw [← hJp] at sj hR
                    have ha := idx_lt (n := n) (by omega) la
                    have hb := idx_lt (n := n) (by omega) lb
                    have ea := idx_eq (n := n) (by omega) la
                    have eb := idx_eq (n := n) (by omega) lb
                    have dm : mlink n q (la, lb) = if idx n la = idx n lb then q else (q.hear (idx n la) ⟨(idx n lb : Nat), (q.rs (idx n lb)).os, (q.rs (idx n lb)).orr, costF (idx n la) (idx n lb)⟩).hear (idx n lb) ⟨(idx n la : Nat), (q.rs (idx n la)).os, (q.rs (idx n la)).orr, costF (idx n la) (idx n lb)⟩ := rfl
                    have dj : jlink n Jp (la, lb) = if idx n la = idx n lb then Jp else upd (upd Jp (idx n la) (Jp (idx n la) || Jp (idx n lb))) (idx n lb) (Jp (idx n la) || Jp (idx n lb)) := rfl
                    rw [dm] at sm
                    rw [dj] at sj
                    obtain ⟨a, hea⟩ : ∃ a, a = idx n la := ⟨_, rfl⟩
                    obtain ⟨b, heb⟩ : ∃ b, b = idx n lb := ⟨_, rfl⟩
                    rw [← hea] at ha ea sm sj
                    rw [← heb] at hb eb sm sj
                    have HSM := Lib.hid sm
                    have HSJ := Lib.hid sj
                    have HIN := Lib.hid hin
                    have HRk := Lib.hid hR
                    have nz : ¬ (n : Int) = 0 := by omega
                    have np : (0 : Int) < (n : Int) := by omega
                    clear sm sj hin hR hq hJp dm dj hea heb hox
                    go_upto_region 24 with fail
                    go_cut [16, 17] from 79 to 154 (fun va vb wx => va = .int .i64 (a : Nat) ∧ vb = .int .i64 (b : Nat) ∧ RX w wx B mb R T H cR cT cH n J q Jp)
                    case first =>
                      go_quiet (fail)
                      go_wp2_with fail
                      go_meet
                      exact ⟨by first | rfl | rw [ea], by first | rfl | rw [eb], HRk.out.keep (((Far.refl _ _).alloc _).drewN _)⟩
                    case rest =>
                      obtain ⟨rfl, rfl, hR⟩ := hcut
                      obtain ⟨wa, hwa⟩ : ∃ wa, wa = wc := ⟨_, rfl⟩
                      subst hwa
                      have HRa := Lib.hid hR
                      clear hR c0 c1
                      by_cases hab : a = b
                      · have hab' : (((a : Nat) : Int) == ((b : Nat) : Int)) = true := by simp [hab]
                        have hrel : RX w wa B mb R T H cR cT cH n J ((ks2.take (k + 1)).foldl (mlink n) (mT n ks2 ms1 t)) ((ks2.take (k + 1)).foldl (jlink n) (jT n ks2 t)) := by
                          rw [HSM.out, HSJ.out, if_pos hab, if_pos hab]
                          exact HRa.out
                        have HREL := Lib.hid hrel
                        clear hab hrel
                        go_wp2_with fail
                        go_roundw
                        case rel => exact ⟨k + 1, by omega, by go_num, HREL.out⟩
                        case measure => simp [intOf]; omega
                      · have hab' : (((a : Nat) : Int) == ((b : Nat) : Int)) = false := by simp; omega
                        have a0' : (0 : Int) ≤ ((a : Nat) : Int) := Int.natCast_nonneg _
                        have a1' : ((a : Nat) : Int) < (n : Int) := by omega
                        have b0' : (0 : Int) ≤ ((b : Nat) : Int) := Int.natCast_nonneg _
                        have b1' : ((b : Nat) : Int) < (n : Int) := by omega
                        have HAB := Lib.hid hab
                        obtain ⟨ja, fa⟩ := HRa.out.ja a ha
                        obtain ⟨jb, fb⟩ := HRa.out.ja b hb
                        obtain ⟨va, hva⟩ : ∃ va, va = Jp a := ⟨_, rfl⟩
                        obtain ⟨vb, hvb⟩ : ∃ vb, vb = Jp b := ⟨_, rfl⟩
                        have K1 := ((HRa.out.join a (va || vb) ha).join b (va || vb) hb)
                        have K2 := ((HRa.out.join b (va || vb) hb).join a (va || vb) ha)
                        have e2 : upd (upd Jp b (va || vb)) a (va || vb) = upd (upd Jp a (va || vb)) b (va || vb) := by
                          funext i
                          unfold upd
                          by_cases e1 : i = a
                          · rw [if_pos e1, if_neg (by omega), if_pos e1]
                          · rw [if_neg e1]
                            by_cases e3 : i = b
                            · rw [if_pos e3, if_pos e3]
                            · rw [if_neg e3, if_neg e3, if_neg e1]
                        rw [e2] at K2
                        have HK1 := Lib.hid K1
                        have HK2 := Lib.hid K2
                        have HVV : RowKit.Hid (va = Jp a ∧ vb = Jp b) := Lib.hid ⟨hva, hvb⟩
                        rw [← hva] at ja
                        rw [← hvb] at jb
                        clear K1 K2 e2 hva hvb
                        go_upto_region 26 with fail
                        go_cut [] from 92 to 154 (fun wx => RX w wx B mb R T H cR cT cH n J q (upd (upd Jp a (va || vb)) b (va || vb)))
                        case first =>
                          cases va <;> cases vb
                          all_goals
                            go_region
                            all_goals
                              go_wp2_with fail
                              go_meet
                              first | exact HK1.out | exact HK2.out | exact HK1.out.keep (Far.refl _ _).drew | exact HK2.out.keep (Far.refl _ _).drew
                        case rest =>
                          obtain ⟨wb, hwb⟩ : ∃ wb, wb = wc := ⟨_, rfl⟩
                          subst hwb
                          have HRb := Lib.hid hcut
                          clear hcut ja fa jb fb
                          obtain ⟨tv, hv, lab, hM⟩ := HRb.out.mx
                          obtain ⟨d0, _⟩ := hM.s0
                          obtain ⟨⟨r0, _⟩, ⟨r1, _⟩, _, _, _⟩ := hM.rt b hb
                          have hla := HIN.out.hlen a ha
                          have HLA : RowKit.Hid ((q.heard a).length ≤ 1000) := Lib.hid (by omega)
                          clear hM hla
                          go_wp2_with fail
                          (with_reducible refine (hear_is HRb.out.mx HRb.out.hB.2 a ha hn8 HLA.out (b : Nat) (q.rs b).os (q.rs b).orr (1 + ((a : Int) * 7 + (b : Int) * 7) % 50 * 80)).mono ?_)
                          rintro e w7 ⟨rfl, hX7, hb7⟩
                          have hR7 := HRb.out.call hb7 hX7
                          obtain ⟨q1, hq1⟩ : ∃ q1, q1 = q.hear a ⟨(b : Nat), (q.rs b).os, (q.rs b).orr, 1 + ((a : Int) * 7 + (b : Int) * 7) % 50 * 80⟩ := ⟨_, rfl⟩
                          rw [← hq1] at hR7
                          have HR7 := Lib.hid hR7
                          have hq2 : q1.rs = q.rs := by rw [hq1]; rfl
                          have hlb : (q1.heard b).length ≤ 1000 := by
                            rw [hq1, heard_upd, if_neg (fun e => HAB.out e.symm)]
                            have := HIN.out.hlen b hb
                            omega
                          have HLB := Lib.hid hlb
                          have HQ1 := Lib.hid hq1
                          clear hX7 hb7 hR7 hlb hq1 d0 r0 r1
                          obtain ⟨tv, hv, lab, hM⟩ := HR7.out.mx
                          obtain ⟨d0, _⟩ := hM.s0
                          obtain ⟨⟨r0, _⟩, ⟨r1, _⟩, _, _, _⟩ := hM.rt a ha
                          rw [hq2] at r0 r1
                          clear hM hq2
                          go_wp2_with fail
                          (with_reducible refine (hear_is HR7.out.mx HR7.out.hB.2 b hb hn8 HLB.out (a : Nat) (q.rs a).os (q.rs a).orr (1 + ((a : Int) * 7 + (b : Int) * 7) % 50 * 80)).mono ?_)
                          rintro e w8 ⟨rfl, hX8, hb8⟩
                          have hR8 := HR7.out.call hb8 hX8
                          have hrel : RX w w8 B mb R T H cR cT cH n J ((ks2.take (k + 1)).foldl (mlink n) (mT n ks2 ms1 t)) ((ks2.take (k + 1)).foldl (jlink n) (jT n ks2 t)) := by
                            rw [HSM.out, HSJ.out, if_neg HAB.out, if_neg HAB.out, ← HVV.out.1, ← HVV.out.2]
                            rw [HQ1.out] at hR8
                            exact hR8
                          have HREL := Lib.hid hrel
                          clear hX8 hb8 hR8 hrel d0 r0 r1
                          go_wp2_with fail
                          go_roundw
                          case rel => exact ⟨k + 1, by omega, by go_num, HREL.out⟩
                          case measure => simp [intOf]; omega
                  · obtain rfl : k = len2 := by omega
                    have htk : ks2.take k = ks2 := by rw [← HY.out.1, List.take_length]
                    rw [htk] at hR
                    have HR := Lib.hid hR
                    clear hR htk
                    go_wp2_with fail
                    go_loopw [19] (fun i wr => ∃ c : Nat, 1 ≤ c ∧ c ≤ n ∧ i = .int .i64 c ∧ RX w wr B mb R T H cR cT cH n J (chTo (ks2.foldl (mlink n) (mT n ks2 ms1 t)) (c - 1)) (jT n ks2 (t + 1))) (fun i _ => n - (intOf i).toNat)
                    case atStart => exact ⟨1, by omega, by omega, rfl, HR.out⟩
                    case round =>
                      obtain ⟨c, hc1, hcn, rfl, hR⟩ := hrel
                      by_cases hcl : c < n
                      · have hsm := (inv_ch (t := t) (k := c - 1) hn2 hn8 HL.out.1 HL.out.2 (by omega) (by omega)).small (by omega) (by omega)
                        have e : chTo (ks2.foldl (mlink n) (mT n ks2 ms1 t)) c = chF (chTo (ks2.foldl (mlink n) (mT n ks2 ms1 t)) (c - 1)) c := by
                          obtain ⟨d, rfl⟩ : ∃ d, c = d + 1 := ⟨c - 1, by omega⟩
                          rfl
                        have HSM := Lib.hid hsm
                        have HE := Lib.hid e
                        have HRc := Lib.hid hR
                        have c0 : (0 : Int) ≤ (c : Int) := Int.natCast_nonneg _
                        have c9 : (c : Int) ≤ 255 := by omega
                        clear hsm e hR
                        go_wp2_with fail
                        (with_reducible refine (apply_is HRc.out.mx HRc.out.hB.2 hn2 hn8 HSM.out 0 (c : Nat) 0 0 0 (mv_zero hn8 hcl)).mono ?_)
                        rintro e w6 ⟨rfl, hX6, hb6⟩
                        have hRn : RX w w6 B mb R T H cR cT cH n J (chTo (ks2.foldl (mlink n) (mT n ks2 ms1 t)) (c + 1 - 1)) (jT n ks2 (t + 1)) := by
                          rw [step_zero _ (by omega) hcl, ← HE.out] at hX6
                          exact HRc.out.call hb6 hX6
                        have HRn := Lib.hid hRn
                        clear hX6 hb6 hRn
                        go_wp2_with fail
                        go_roundw
                        case rel => exact ⟨c + 1, by omega, by omega, by go_num, HRn.out⟩
                        case measure => simp [intOf]; omega
                      · obtain rfl : n = c := by omega
                        have HRn := Lib.hid hR
                        clear hR
                        go_wp2_with fail
                        go_roundw
                        case rel => exact ⟨t + 1, by omega, by go_num, HRn.out⟩
                        case measure => simp [intOf]; omega
              · obtain rfl : n = t := by omega
                have HRE := Lib.hid hR
                clear hR
                go_wp2_with fail
                have hrch : ∀ i, i < n → jT n ks2 n i = decide (goUp (mT n ks2 ms1 n) (i : Nat) n = 0) := fun i hi => reach hn2 hn8 ks2 ms1 (by have := HL.out.1; omega) hi
                have HRC := Lib.hid hrch
                obtain ⟨tv, hv, lab, hM⟩ := HRE.out.mx
                obtain ⟨d0, _⟩ := hM.s0
                have HMF := Lib.hid hM
                have HJF := Lib.hid HRE.out.ja
                clear hrch hM
                go_loop [167] (fun i => ∃ k : Nat, k ≤ n ∧ i = .int .i64 k) (fun i => n - (intOf i).toNat)
                case atStart => exact ⟨0, by omega, rfl⟩
                case round =>
                  obtain ⟨k, hk, rfl⟩ := hrel
                  by_cases hkl : k < n
                  · go_wp2_with fail
                    go_loop [21, 172] (fun a j => ∃ q : Nat, q ≤ n ∧ j = .int .i64 q ∧ a = .int .i64 (goUp (mT n ks2 ms1 n) (k : Nat) q)) (fun _ j => n - (intOf j).toNat)
                    case atStart => exact ⟨0, by omega, rfl, rfl⟩
                    case round =>
                      obtain ⟨q, hq, rfl, rfl⟩ := hrel
                      by_cases hql : q < n
                      · obtain ⟨x, hx⟩ : ∃ x, x = goUp (mT n ks2 ms1 n) (k : Nat) q := ⟨_, rfl⟩
                        have hsx : goUp (mT n ks2 ms1 n) (k : Nat) (q + 1) = if 0 < x then ((mT n ks2 ms1 n).rs x.toNat).par else x := by rw [goUp, ← hx]
                        have hrg := up_bd (t := n) hn2 hn8 HL.out.1 HL.out.2 hn8 hkl q
                        rw [← hx] at hrg ⊢
                        have HSX := Lib.hid hsx
                        clear hsx
                        by_cases h0 : 0 < x
                        · obtain ⟨a, ha, hxa⟩ : ∃ a : Nat, a < n ∧ x = (a : Nat) := by
                            rcases hrg with e | e
                            · omega
                            · exact e
                          have c4 := (HMF.out.rt a ha).c4.cell
                          have HSY : RowKit.Hid (goUp (mT n ks2 ms1 n) (k : Nat) (q + 1) = ((mT n ks2 ms1 n).rs a).par) := Lib.hid (by rw [HSX.out, if_pos h0, hxa, Int.toNat_natCast])
                          obtain ⟨pr, hpr⟩ : ∃ pr, pr = ((mT n ks2 ms1 n).rs a).par := ⟨_, rfl⟩
                          rw [← hpr] at c4 HSY
                          clear hpr hrg hx
                          subst hxa
                          have a0' : (0 : Int) ≤ (a : Int) := Int.natCast_nonneg _
                          have a1' : (a : Int) < (n : Int) := by omega
                          go_wp2_with fail
                          go_round
                          case rel => exact ⟨q + 1, by omega, by go_num, by rw [HSY.out]⟩
                          case measure => simp [intOf]; omega
                        · have HSY : RowKit.Hid (goUp (mT n ks2 ms1 n) (k : Nat) (q + 1) = x) := Lib.hid (by rw [HSX.out, if_neg h0])
                          clear hrg hx
                          go_wp2_with fail
                          go_round
                          case rel => exact ⟨q + 1, by omega, by go_num, by rw [HSY.out]⟩
                          case measure => simp [intOf]; omega
                      · obtain rfl : n = q := by omega
                        have hj := HRC.out k hkl
                        obtain ⟨x, hx⟩ : ∃ x, x = goUp (mT n ks2 ms1 n) (k : Nat) n := ⟨_, rfl⟩
                        rw [← hx] at hj ⊢
                        obtain ⟨jc, _⟩ := HJF.out k hkl
                        rw [hj] at jc
                        have k0 : (0 : Int) ≤ (k : Int) := Int.natCast_nonneg _
                        have k1 : (k : Int) < (n : Int) := by omega
                        clear hj hx
                        by_cases h0 : x = 0
                        · have hd : decide (x = 0) = true := decide_eq_true h0
                          rw [hd] at jc
                          subst h0
                          clear hd
                          go_wp2_with fail
                          go_round
                          case rel => exact ⟨k + 1, by omega, by go_num⟩
                          case measure => simp [intOf]; omega
                        · have hd : decide (x = 0) = false := decide_eq_false h0
                          rw [hd] at jc
                          have hb0 : (x == 0) = false := by simpa using h0
                          clear hd h0
                          go_wp2_with fail
                          go_round
                          case rel => exact ⟨k + 1, by omega, by go_num⟩
                          case measure => simp [intOf]; omega
                  · go_wp2
                    go_ret
                    exact ⟨rfl, HRE.out.acc⟩

set_option maxRecDepth 100000 in
theorem lifted (os : Os) (started : os.Started) (H : Type) (enc : TypeId × Value → H) :
    ReturnsInHanded {} Try.checked os 3 .any (Rows.rankReachingSpec.pre6 enc Try.prog Try.f3 Rows.rankReachingRow.domain false) (Rows.rankReachingSpec.post enc Try.prog Try.f3 false true false false) := by
  refine returnsInHanded_of_change (C := Try.checked) own started (by kernel_rfl) Try.func3
    (ChangeSpec.witness6 (enc := enc) (C := Try.checked) false ⟨#[], #[.int .u8 0, .slice none 0 0, .slice none 0 0], []⟩ 8 (by kernel_rfl) (by kernel_rfl) (by kernel_rfl) (by kernel_rfl)) ?_
  intro W base args ds gs before hval0 hW hcnd _
  have hval : ∀ (j : Nat) t v, Try.f3.params[j]? = some t → args[j]? = some v → Value.okWide Try.prog W .any base t v := hval0
  have hW' := hW
  obtain ⟨p, q, hA0, hV, rfl, hfz, hnd⟩ := hW
  have hA : DataW.TrodAll enc Try.prog W 0 (fun _ => true) true Try.f3.params.toList args.toList ds p := hA0
  rw [Try.params3] at hA hval
  obtain ⟨v0, vs0, d0, ds0, p0, q0, hargs, rfl, rfl, h0, z0⟩ := trodAll_cons hA
  obtain ⟨v1, vs1, d1, ds1, p1, q1, rfl, rfl, rfl, h1, z1⟩ := trodAll_cons z0
  obtain ⟨v2, vs2, d2, ds2, p2, q2, rfl, rfl, rfl, h2, z2⟩ := trodAll_cons z1
  obtain ⟨rfl, rfl, rfl⟩ := trodAll_nil z2
  obtain rfl : args = #[v0, v1, v2] := by cases args; simp_all
  obtain ⟨rfl, rfl⟩ := trodVars_none hV
  have k0 := h0
  have lt0 : ∀ x ∈ p0, x.block < W.heap.size := by obtain ⟨m, hm⟩ := k0; exact DataW.trod_lt m _ _ _ hm
  obtain ⟨a0, rfl, rfl, rfl, w0⟩ := open_int Try.underlying5 (hval 0 5 v0 rfl rfl) h0
  have k1 := h1
  have lt1 : ∀ x ∈ p1, x.block < W.heap.size := by obtain ⟨m, hm⟩ := k1; exact DataW.trod_lt m _ _ _ hm
  obtain ⟨A1, len1, cap1, ms1, rfl, hl1, hm1, hx1⟩ := open_moves (hval 1 22 v1 rfl rfl) h1
  have k2 := h2
  have lt2 : ∀ x ∈ p2, x.block < W.heap.size := by obtain ⟨m, hm⟩ := k2; exact DataW.trod_lt m _ _ _ hm
  obtain ⟨A2, len2, cap2, ks2, rfl, hl2, hm2, hx2⟩ := open_links (hval 2 23 v2 rfl rfl) h2
  clear hA0 hval0
  refine (walk a0 A1 len1 cap1 ms1 A2 len2 cap2 ks2 W w0 hx1 hl1 hm1 hx2 hl2 hm2).mono fun e W' ⟨he, hg⟩ => ?_
  subst he
  exact ⟨_, rfl, _, _, _, [], _, [], hW', trodAll_mk1 (shut_bool Try.underlying4 _), (trodAll_cons_mk (Below.trod laidOut (by kernel_rfl) (of_decide_eq_true (by kernel_rfl)) k0 hg lt0) (trodAll_cons_mk (Below.trod laidOut (by kernel_rfl) (of_decide_eq_true (by kernel_rfl)) k1 hg lt1) (trodAll_cons_mk (Below.trod laidOut (by kernel_rfl) (of_decide_eq_true (by kernel_rfl)) k2 hg lt2) trodAll_mk0))), rfl, hg.frame _, fun h => by cases h⟩

theorem over : Rows.rankReachingRow.holds Try.pinned (OpenSpec.ofChange Rows.rankReachingSpec) :=
  OpenClaim.holds_of_wide 3 Try.f3 rfl rfl rfl rfl rfl rfl rfl ⟨rfl, rfl, rfl, rfl, rfl⟩ rfl rfl rfl rfl rfl (by kernel_rfl) Try.func3 (by kernel_rfl)
    (of_decide_eq_true (by kernel_rfl)) (by unfold Func.isWrapper; rw [if_neg (of_decide_eq_false (by kernel_rfl))]; exact ⟨rfl, rfl⟩)
    (fun os started H enc _ => lifted os started H enc)

theorem proved : Rows.RankReachingSaid := over
#print axioms proved
end Go.Proofs.Ytefnjhdmpnfacaa.rankReaching
