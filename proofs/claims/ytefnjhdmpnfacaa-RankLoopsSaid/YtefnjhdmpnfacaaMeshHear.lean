/- Contract of the mesh's hear: what is heard replaces what was heard of the same peer, or is added. -/
import Derived.Test.YtefnjhdmpnfacaaMeshRow
import Derived.Test.YtefnjhdmpnfacaaOffers
import Derived.Deep.QuietTactic
import Derived.BigQuiet
import Derived.Deep.RegionHeld3
import Derived.Test.YtefnjhdmpnfacaaFloat
namespace Go.Proofs.Ytefnjhdmpnfacaa
open Go.RowKit

theorem off_cell {w : World} {b o : Nat} {x : Off} (h : OffAt w b o x) : w.cell? ⟨b, o, none⟩ = some (.int .i64 x.peer) ∧ w.cell? ⟨b, o + 1, none⟩ = some (.int .i64 x.seq) ∧ w.cell? ⟨b, o + 2, none⟩ = some (.int .i64 x.rank) ∧ w.cell? ⟨b, o + 3, none⟩ = some (.int .i64 x.cost) ∧
    w.frozen? ⟨b, o, none⟩ = false ∧ w.frozen? ⟨b, o + 1, none⟩ = false ∧ w.frozen? ⟨b, o + 2, none⟩ = false ∧ w.frozen? ⟨b, o + 3, none⟩ = false :=
  ⟨h.c0.cell, h.c1.cell, h.c2.cell, h.c3.cell, h.c0.free, h.c1.free, h.c2.free, h.c3.free⟩

theorem Whole.farw {C : Nat → Prop} {w w' : World} {g : Nat} {t : TypeId} {cs : Array Value} (h : Whole w g t cs) (hf : Far C w w') (hc : ¬ C g) : Whole w' g t cs := (hf.block g h.lt hc).trans h

theorem Far.store {C : Nat → Prop} {a w : World} (h : Far C a w) {g : Nat} (hg : C g) (o : Nat) (u : Value) : Far C a (w.setCell ⟨g, o, none⟩ u) := h.setCell (p := ⟨g, o, none⟩) (.inl hg) u

set_option maxHeartbeats 4000000 in
set_option maxRecDepth 100000 in
theorem hear_is {w : World} {B mb R T H cR cT cH n : Nat} {G : Nat → Prop} {m : St} (hX : MeshX w B mb R T H cR cT cH n G m) (hB : B ≤ w.heap.size) (i : Nat) (hi : i < n) (hn8 : n ≤ 8) (hL : (m.heard i).length ≤ 1000) (p s r c : Int) :
    Calls Try.prog 14 #[.pointer (some ⟨mb, 0, none⟩), .int .i64 i, .agg #[.int .i64 p, .int .i64 s, .int .i64 r, .int .i64 c]] w fun e w' => e = .returned (.tuple #[]) ∧ MeshX w' B mb R T H cR cT cH n G (m.hear i ⟨p, s, r, c⟩) ∧ Keeps B G w w' := by
  obtain ⟨tv, hv, lab, hM⟩ := hX
  obtain ⟨q0, q1, q2, q3⟩ := hM.lt (by omega)
  have i0 : (0 : Int) ≤ (i : Int) := Int.natCast_nonneg _
  have i1 : (i : Int) < (n : Int) := by omega
  obtain ⟨A, cap, hva, _⟩ := (hM.mine hi).offs
  have c2 := hM.s2.cell
  have ch := (hM.hh i hi).cell
  rw [hva] at ch
  have HM := Lib.hid hM
  have HV := Lib.hid hva
  have HB := Lib.hid hB
  obtain ⟨L, hLe⟩ : ∃ L, L = (m.heard i).length := ⟨_, rfl⟩
  rw [← hLe] at ch hL
  have HL := Lib.hid hLe
  clear hM hva hB hLe
  go_enter Try.func14, Try.ntmps14
  go_wp2_with fail
  go_loopw [15] (fun t wr => ∃ k : Nat, k ≤ L ∧ t = .int .i64 k ∧ (∀ y ∈ (m.heard i).take k, y.peer ≠ p) ∧ Far (fun _ => False) w wr ∧ Whole wr w.heap.size 45 #[.int .i64 p, .int .i64 s, .int .i64 r, .int .i64 c]) (fun t _ => L - (intOf t).toNat)
  case atStart => exact ⟨0, by omega, rfl, by simp, (Far.refl _ _).alloc _, Whole.new _ _ _⟩
  case round =>
    obtain ⟨k, hk, rfl, hno, hF, hW⟩ := hrel
    have HN := Lib.hid hno
    have hMr := HM.out.keep hF
    obtain ⟨b0, b1, b2, b3, _⟩ := Whole.offer (o := ⟨p, s, r, c⟩) hW
    simp only at b0 b1 b2 b3
    have lb := hW.lt
    have hsz := hF.size
    clear hno
    by_cases hlt : k < L
    · rcases hMr.heard_form hi with ⟨hnil, _⟩ | ⟨g, cap', hvg, hgc, hgm, hgB, hgl, hgla, hgx⟩
      · rw [HL.out, hnil] at hlt
        simp at hlt
      · obtain ⟨rfl, rfl⟩ : A = some ⟨g, 0, none⟩ ∧ cap' = cap := by
          have := HV.out.symm.trans hvg
          cases this
          exact ⟨rfl, rfl⟩
        obtain ⟨x, hx⟩ : ∃ x, (m.heard i)[k]? = some x := ⟨_, List.getElem?_eq_getElem (by rw [← HL.out]; exact hlt)⟩
        have hxg := hgx k x hx
        obtain ⟨x0, x1, x2, x3, y0, y1, y2, y3⟩ := off_cell hxg
        have HX := Lib.hid hx
        obtain ⟨d2, _⟩ := hMr.s2
        obtain ⟨dh, _⟩ := hMr.hh i hi
        rw [HV.out, ← HL.out] at dh
        have k0 : (0 : Int) ≤ (k : Int) := Int.natCast_nonneg _
        have k1 : (k : Int) < (L : Int) := by omega
        obtain ⟨l0, l1, l2, l3⟩ := hMr.labs
        have n1 : mb ≠ g := by rintro rfl; omega
        have n2 : H ≠ g := by rintro rfl; omega
        have hgw : g < w.heap.size := by
          have := ((HM.out.hr i hi).lt g (by rw [HV.out]; rfl)).2
          exact this
        have n3 : w.heap.size ≠ g := by omega
        have HMr := Lib.hid hMr
        have HF := Lib.hid hF
        clear hx hxg hgx hvg hMr hF l0 l1 l2 l3
        by_cases hp : x.peer = p
        · have hp' : (x.peer == p) = true := by simpa using hp
          have HP := Lib.hid hp
          clear hp
          have SOF : RowKit.Hid (∀ W, Far (fun k => k = g) wr W → Far (fun k => k = g) wr W ∧ W.cell? ⟨mb, 2, none⟩ = some (.slice (some ⟨H, 0, none⟩) n cH) ∧ W.cell? ⟨H, i, none⟩ = some (.slice (some ⟨g, 0, none⟩) L cap') ∧
              W.cell? ⟨w.heap.size, 0, none⟩ = some (.int .i64 p) ∧ W.cell? ⟨w.heap.size, 1, none⟩ = some (.int .i64 s) ∧ W.cell? ⟨w.heap.size, 2, none⟩ = some (.int .i64 r) ∧ W.cell? ⟨w.heap.size, 3, none⟩ = some (.int .i64 c)) :=
            Lib.hid (fun W h => ⟨h, (h.cell (p := ⟨mb, 2, none⟩) (by show mb < _; omega) n1).trans d2, (h.cell (p := ⟨H, i, none⟩) (by show H < _; omega) n2).trans dh,
              (h.cell (p := ⟨w.heap.size, 0, none⟩) lb n3).trans b0, (h.cell (p := ⟨w.heap.size, 1, none⟩) lb n3).trans b1, (h.cell (p := ⟨w.heap.size, 2, none⟩) lb n3).trans b2, (h.cell (p := ⟨w.heap.size, 3, none⟩) lb n3).trans b3⟩)
          go_wp2_with (go_quiet (fail))
          go_region_held3 (fun W => Far (fun k => k = g) wr W ∧ W.cell? ⟨mb, 2, none⟩ = some (.slice (some ⟨H, 0, none⟩) n cH) ∧ W.cell? ⟨H, i, none⟩ = some (.slice (some ⟨g, 0, none⟩) L cap') ∧
              W.cell? ⟨w.heap.size, 0, none⟩ = some (.int .i64 p) ∧ W.cell? ⟨w.heap.size, 1, none⟩ = some (.int .i64 s) ∧ W.cell? ⟨w.heap.size, 2, none⟩ = some (.int .i64 r) ∧ W.cell? ⟨w.heap.size, 3, none⟩ = some (.int .i64 c))
            ((exact SOF.out _ (by repeat (first | (with_reducible exact Far.refl _ _) | (with_reducible assumption) | (with_reducible refine Far.drew ?_) | (with_reducible refine Far.drewN ?_ _) | (with_reducible refine Far.alloc ?_ _) | (refine Far.store ?_ (by first | exact rfl | exact .inl rfl | exact .inr rfl) _ _)))))
            (fail)
          have e : m.hear i ⟨p, s, r, c⟩ = { m with heard := upd m.heard i ((m.heard i).set k ⟨p, s, r, c⟩) } := by
            unfold St.hear
            rw [hearL_set _ _ k x HX.out HP.out HN.out]
          have HE := Lib.hid e
          clear e
          go_wp2_with fail
          refine bodyPost_ret (results_none (by rfl) _ _ _) rfl ⟨rfl, ?_, ?_⟩
          · rw [HE.out]
            refine ⟨tv, hv, lab, (HMr.out.keep ((Far.refl _ _).drewN _)).heardrow hi (far_setOff (Far.refl _ _) (.inl (by rw [HV.out]; rfl)) (k * 4) ⟨p, s, r, c⟩) _ ?_⟩
            rw [HV.out]
            exact own_setOff (by have := (HMr.out.keep ((Far.refl _ _).drewN (nq + 1))).hr i hi; rw [HV.out] at this; exact this) (by rw [← HL.out]; exact hlt) _
          · have h1 := far_setOff (C := fun b => b = g) ((HF.out.drewN (nq + 1)).mono (fun _ e => e.elim)) (.inl rfl) (k * 4) ⟨p, s, r, c⟩
            exact h1.to_keeps HB.out (fun b e => by rw [e]; exact ⟨hgB, HMr.out.free (by omega)⟩)
        · have hp' : (x.peer == p) = false := by simpa using hp
          have HP := Lib.hid hp
          clear hp
          go_wp2_with (go_quiet (fail))
          go_roundw
          case rel => exact ⟨k + 1, by omega, by go_num, by
            rw [take_step HX.out]
            intro y hy
            rcases List.mem_append.1 hy with hy | hy
            · exact HN.out y hy
            · rw [List.mem_singleton] at hy
              subst hy
              exact HP.out, HF.out.drewN _, hW⟩
          case measure => simp [intOf]; omega
    · obtain rfl : k = L := by omega
      obtain ⟨e1, e2, e3, e4, e5, e6⟩ := hMr.ne
      obtain ⟨⟨z0, z1, z2, z3⟩, _⟩ := hMr.row_ne hi
      obtain ⟨low, _⟩ := hMr.row_low hi
      obtain ⟨d2, _⟩ := hMr.s2
      obtain ⟨dh, df⟩ := hMr.hh i hi
      have hnw : some w.heap.size ≠ (hv i).ownBlock := fun e => by have := ((HM.out.hr i hi).lt _ e.symm).2; omega
      rw [HV.out] at z0 z1 z2 z3 low hnw dh
      have HV2 : RowKit.Hid (hv i = .slice A k cap) := Lib.hid (by rw [HV.out, ← HL.out])
      have LL : RowKit.Hid ((m.heard i).length ≤ 1000000) := Lib.hid (by rw [← HL.out]; omega)
      have hls : (m.heard i).length = k := HL.out.symm
      rw [← HL.out] at low hnw dh z0 z1 z2 z3
      have hown : wr.ownsRow B 45 4 (.slice A k cap) (m.heard i).length (offCells (m.heard i)) := by rw [← HV2.out]; exact hMr.hr i hi
      have HLS := Lib.hid hls
      have HMr := Lib.hid hMr
      have HF := Lib.hid hF
      have HLOW := Lib.hid low
      have HOWN := Lib.hid hown
      have n3 : w.heap.size ≠ H := by omega
      have SOF : RowKit.Hid (∀ W, Far (fun b => some b = (Value.slice A k cap).ownBlock) wr W → W.cell? ⟨mb, 2, none⟩ = some (.slice (some ⟨H, 0, none⟩) n cH) ∧ W.cell? ⟨H, i, none⟩ = some (.slice A k cap) ∧
          W.cell? ⟨w.heap.size, 0, none⟩ = some (.int .i64 p) ∧ W.cell? ⟨w.heap.size, 1, none⟩ = some (.int .i64 s) ∧ W.cell? ⟨w.heap.size, 2, none⟩ = some (.int .i64 r) ∧ W.cell? ⟨w.heap.size, 3, none⟩ = some (.int .i64 c) ∧ W.frozen? ⟨H, i, none⟩ = false) :=
        Lib.hid (fun W h => ⟨(h.cell (p := ⟨mb, 2, none⟩) (by show mb < _; omega) z0).trans d2, (h.cell (p := ⟨H, i, none⟩) (by show H < _; omega) z3).trans dh,
          (h.cell (p := ⟨w.heap.size, 0, none⟩) lb hnw).trans b0, (h.cell (p := ⟨w.heap.size, 1, none⟩) lb hnw).trans b1, (h.cell (p := ⟨w.heap.size, 2, none⟩) lb hnw).trans b2, (h.cell (p := ⟨w.heap.size, 3, none⟩) lb hnw).trans b3,
          (h.frozen (p := ⟨H, i, none⟩) (by show H < _; omega) z3).trans df⟩)
      clear hMr hF low hown hls z0 z1 z2 z3 hnw d2 dh df b0 b1 b2 b3 ch c2
      go_wp2_with fail
      refine wp_region_float 16 13 (fun W => W.cell? ⟨mb, 2, none⟩ = some (.slice (some ⟨H, 0, none⟩) n cH) ∧ W.cell? ⟨H, i, none⟩ = some (.slice A k cap) ∧
          W.cell? ⟨w.heap.size, 0, none⟩ = some (.int .i64 p) ∧ W.cell? ⟨w.heap.size, 1, none⟩ = some (.int .i64 s) ∧ W.cell? ⟨w.heap.size, 2, none⟩ = some (.int .i64 r) ∧ W.cell? ⟨w.heap.size, 3, none⟩ = some (.int .i64 c) ∧ W.frozen? ⟨H, i, none⟩ = false) (by kernel_rfl) (by kernel_rfl) (fun _ a d _ _ h => by cases d <;> exact h) (SOF.out _ (by repeat (first | (with_reducible exact Far.refl _ _) | (with_reducible assumption) | (with_reducible refine Far.drew ?_) | (with_reducible refine Far.drewN ?_ _) | (with_reducible refine Far.alloc ?_ _)))) ?_
      simp only [List.take_succ_cons, List.take_zero, List.drop_succ_cons, List.drop_zero]
      repeat (apply wpFloat_step rfl; · (intro W hW; (try dsimp only at hW); go_simp; (try with_reducible rfl)); (try simp only [Act.put, List.setIfInBounds_toArray, List.set_cons_zero, List.set_cons_succ]))
      refine wpFloat_nil ?_
      refine wpChain_step (fun K hK => ?_)
      go_simp
      refine hK.out _ _ (SOF.out _ (by repeat (first | (with_reducible exact Far.refl _ _) | (with_reducible assumption) | (with_reducible refine Far.drew ?_) | (with_reducible refine Far.drewN ?_ _) | (with_reducible refine Far.alloc ?_ _)))) ?_
      clear hK K
      (try simp only [Act.put, List.setIfInBounds_toArray, List.set_cons_zero, List.set_cons_succ])
      refine wpChain_step (fun K hK => ?_)
      refine step_hear _ _ (by rfl) B (m.heard i) ⟨p, s, r, c⟩ (.slice A k cap) (by rfl) (own_far HOWN.out (by repeat (first | (with_reducible exact Far.refl _ _) | (with_reducible assumption) | (with_reducible refine Far.drew ?_) | (with_reducible refine Far.drewN ?_ _) | (with_reducible refine Far.alloc ?_ _)))) wr.heap.size _ (by rfl) (offsAt_new wr p s r c) LL.out (by have := HB.out; simp; omega) ?_
      intro v' wA hG
      obtain ⟨g', c', rfl, _, _⟩ := hG.own.form (by simp)
      obtain ⟨MX, FA, FB⟩ := HMr.out.heard_grew hi HV2.out (by repeat (first | (with_reducible exact Far.refl _ _) | (with_reducible assumption) | (with_reducible refine Far.drew ?_) | (with_reducible refine Far.drewN ?_ _) | (with_reducible refine Far.alloc ?_ _))) hG
      simp only [List.length_append, List.length_singleton] at MX FB
      have HMX := Lib.hid MX
      have HFB := Lib.hid FB
      have hsA := FA.size
      clear MX FB hG
      refine hK.out _ _ (SOF.out _ FA) ?_
      clear hK K
      (try simp only [Act.put, List.setIfInBounds_toArray, List.set_cons_zero, List.set_cons_succ])
      refine wpChain_step (fun K hK => ?_)
      go_simp
      refine hK.out _ _ (SOF.out _ FA) ?_
      clear hK K
      (try simp only [Act.put, List.setIfInBounds_toArray, List.set_cons_zero, List.set_cons_succ])
      refine wpChain_last (fun K hK => ?_)
      have ss := SOF.out _ FA
      obtain ⟨t0, t1, _, _, _, _, t2⟩ := ss
      go_simp
      refine hK.out _ _ ?_
      clear hK K
      (try simp only [Act.put, List.setIfInBounds_toArray, List.set_cons_zero, List.set_cons_succ])
      have e : m.hear i ⟨p, s, r, c⟩ = { m with heard := upd m.heard i (m.heard i ++ [⟨p, s, r, c⟩]) } := by
        unfold St.hear
        rw [hearL_add _ _ (fun y hy => HN.out y (by rw [← HLS.out, List.take_length]; exact hy))]
      have HE := Lib.hid e
      clear e
      go_wp2_with fail
      refine bodyPost_end (results_none (by rfl) _ _ _) rfl ⟨rfl, ?_, ?_⟩
      · rw [HE.out]
        exact HMX.out
      · exact ((HF.out.mono (fun _ e => e.elim)).trans HFB.out).to_keeps HB.out HLOW.out

end Go.Proofs.Ytefnjhdmpnfacaa
