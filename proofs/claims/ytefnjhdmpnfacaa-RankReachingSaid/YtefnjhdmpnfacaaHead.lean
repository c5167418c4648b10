/- The non-vacuity check of the laws of package rank: it returns true. -/
import Derived.Test.YtefnjhdmpnfacaaHeadParts
import Derived.Deep.RegionHeld3
import Derived.Deep.DeepCutAuto
namespace Go.Proofs.Ytefnjhdmpnfacaa
open Go.RowKit Go.BigFrame

set_option maxHeartbeats 4000000 in
set_option maxRecDepth 100000 in
theorem head_any (w : World) : Calls Try.prog 11 #[] w fun e w' => e = .returned (.bool true) ∧ Below w.heap.size w w' := by
  go_enter Try.func11, Try.ntmps11
  go_wp2_with fail
  (with_reducible refine (start_is false 3 ⟨3, 1000000, 3, 0, -1⟩ _ st_s).mono ?_)
  rintro e w1 ⟨rfl, hb⟩
  have B1 := Lib.hid hb
  clear hb
  have W_s : Whole (w1.alloc (.cells #[.int .i64 3, .int .i64 1000000, .int .i64 3, .int .i64 0, .int .i64 (-1)] 43)) w1.heap.size 43 #[.int .i64 3, .int .i64 1000000, .int .i64 3, .int .i64 0, .int .i64 (-1)] := Whole.new _ _ _
  have A_ := Lib.hid (B1.out.alloc B1.out.size (.cells #[.int .i64 3, .int .i64 1000000, .int .i64 3, .int .i64 0, .int .i64 (-1)] 43))
  clear B1
  go_upto_region 2 with fail
  go_cut [2] (fun s2 wx => ∃ g : Nat, s2 = .pointer (some ⟨g, 0, none⟩) ∧ Whole wx g 43 #[.int .i64 3, .int .i64 1000000, .int .i64 3, .int .i64 0, .int .i64 (-1)] ∧ Below (w1.alloc (.cells #[.int .i64 3, .int .i64 1000000, .int .i64 3, .int .i64 0, .int .i64 (-1)] 43)).heap.size (w1.alloc (.cells #[.int .i64 3, .int .i64 1000000, .int .i64 3, .int .i64 0, .int .i64 (-1)] 43)) wx)
  case first =>
    have e0 : (w1.alloc (.cells #[.int .i64 3, .int .i64 1000000, .int .i64 3, .int .i64 0, .int .i64 (-1)] 43)).cell? ⟨w1.heap.size, 0, none⟩ = some (.int .i64 3) := W_s.cell 0
    have e1 : (w1.alloc (.cells #[.int .i64 3, .int .i64 1000000, .int .i64 3, .int .i64 0, .int .i64 (-1)] 43)).cell? ⟨w1.heap.size, 1, none⟩ = some (.int .i64 1000000) := W_s.cell 1
    have e2 : (w1.alloc (.cells #[.int .i64 3, .int .i64 1000000, .int .i64 3, .int .i64 0, .int .i64 (-1)] 43)).cell? ⟨w1.heap.size, 2, none⟩ = some (.int .i64 3) := W_s.cell 2
    have e3 : (w1.alloc (.cells #[.int .i64 3, .int .i64 1000000, .int .i64 3, .int .i64 0, .int .i64 (-1)] 43)).cell? ⟨w1.heap.size, 3, none⟩ = some (.int .i64 0) := W_s.cell 3
    have e4 : (w1.alloc (.cells #[.int .i64 3, .int .i64 1000000, .int .i64 3, .int .i64 0, .int .i64 (-1)] 43)).cell? ⟨w1.heap.size, 4, none⟩ = some (.int .i64 (-1)) := W_s.cell 4
    have hlt : w1.heap.size < (w1.alloc (.cells #[.int .i64 3, .int .i64 1000000, .int .i64 3, .int .i64 0, .int .i64 (-1)] 43)).heap.size := W_s.lt
    clear A_ W_s
    generalize (w1.alloc (.cells #[.int .i64 3, .int .i64 1000000, .int .i64 3, .int .i64 0, .int .i64 (-1)] 43)) = W0 at *
    go_region_held3 (fun W => Below W0.heap.size W0 W ∧ W.cell? ⟨w1.heap.size, 0, none⟩ = some (.int .i64 3) ∧ W.cell? ⟨w1.heap.size, 1, none⟩ = some (.int .i64 1000000) ∧ W.cell? ⟨w1.heap.size, 2, none⟩ = some (.int .i64 3) ∧ W.cell? ⟨w1.heap.size, 3, none⟩ = some (.int .i64 0) ∧ W.cell? ⟨w1.heap.size, 4, none⟩ = some (.int .i64 (-1)))
      ((refine (fun (K9 : Below W0.heap.size W0 _) => ⟨K9, (K9.cell hlt).trans e0, (K9.cell hlt).trans e1, (K9.cell hlt).trans e2, (K9.cell hlt).trans e3, (K9.cell hlt).trans e4⟩) ?_; repeat (first | (with_reducible exact Below.refl _ _) | (with_reducible assumption) | (with_reducible refine Below.drew ?_) | (with_reducible refine Below.setCell ?_ ?_ _; rotate_left; (first | omega | (simp; omega) | simp)) | (with_reducible refine Below.alloc ?_ ?_ _; rotate_left; (first | omega | (simp; omega) | simp)))))
      (first
        | (go_at_call 30; (with_reducible first | refine (offer_ex 0 3 0 128 _).mono ?_); rintro e w9 ⟨rfl, rfl⟩)
        | (go_at_call 18; refine (choose_lit 3 1000000 3 0 (-1) 3 1000000 3 0 (-1) [⟨0, 3, 0, 128⟩] _ 1 1 _ (offs_one 0 3 0 128 (by repeat (first | (with_reducible refine Whole.drew ?_) | (with_reducible refine Whole.new_at ?_; simp; done) | (with_reducible refine Whole.alloc ?_ _)))) (by omega) ch_a).mono ?_; rintro e W9 ⟨rfl, hb9⟩; have HB9 := Lib.hid hb9; have KB9 : Below W0.heap.size W0 W9 := below_next hb9 (by repeat (first | (with_reducible exact Below.refl _ _) | (with_reducible assumption) | (with_reducible refine Below.drew ?_) | (with_reducible refine Below.setCell ?_ ?_ _; rotate_left; (first | omega | (simp; omega) | simp)) | (with_reducible refine Below.alloc ?_ ?_ _; rotate_left; (first | omega | (simp; omega) | simp)))) (by simp; try omega); obtain ⟨hc9, hf9⟩ := bcell hb9; have hz9 := hb9.size; (try simp at hz9); clear hb9))
    all_goals
      go_wp2_with fail
      go_meet
      first
      | (with_reducible exact ⟨_, rfl, Whole.new_at rfl, KB9.alloc KB9.size _⟩)
      | exact ⟨_, rfl, ((((((Whole.below (t := 43) (cs := #[.int .i64 0, .int .i64 0, .int .i64 0, .int .i64 0, .int .i64 0]) (by repeat (first | (with_reducible refine Whole.drew ?_) | (with_reducible refine Whole.new_at ?_; simp; done) | (with_reducible refine Whole.alloc ?_ _))) HB9.out (by (first | omega | (simp; omega) | simp))).set 0 _).set 1 _).set 2 _).set 3 _).set 4 _), ((((KB9.setCell (by (first | omega | (simp; omega) | simp)) _).setCell (by (first | omega | (simp; omega) | simp)) _).setCell (by (first | omega | (simp; omega) | simp)) _).setCell (by (first | omega | (simp; omega) | simp)) _).setCell (by (first | omega | (simp; omega) | simp)) _⟩
  case rest =>
    obtain ⟨g_a, rfl, W_a, hK⟩ := hcut
    obtain ⟨w_a, rfl⟩ : ∃ x : World, x = wc := ⟨_, rfl⟩
    replace W_s := W_s.below hK W_s.lt
    replace A_ := Lib.hid (below_next hK A_.out A_.out.size)
    clear hK
    go_upto_region 3 with fail
    go_cut [3] (fun s3 wx => ∃ g : Nat, s3 = .pointer (some ⟨g, 0, none⟩) ∧ Whole wx g 43 #[.int .i64 4, .int .i64 128, .int .i64 4, .int .i64 128, .int .i64 0] ∧ Below w_a.heap.size w_a wx)
    case first =>
      have e0 : w_a.cell? ⟨w1.heap.size, 0, none⟩ = some (.int .i64 3) := W_s.cell 0
      have e1 : w_a.cell? ⟨w1.heap.size, 1, none⟩ = some (.int .i64 1000000) := W_s.cell 1
      have e2 : w_a.cell? ⟨w1.heap.size, 2, none⟩ = some (.int .i64 3) := W_s.cell 2
      have e3 : w_a.cell? ⟨w1.heap.size, 3, none⟩ = some (.int .i64 0) := W_s.cell 3
      have e4 : w_a.cell? ⟨w1.heap.size, 4, none⟩ = some (.int .i64 (-1)) := W_s.cell 4
      have hlt : w1.heap.size < w_a.heap.size := W_s.lt
      clear A_ W_s W_a
      obtain ⟨W0, rfl⟩ : ∃ x : World, x = w_a := ⟨_, rfl⟩
      go_region_held3 (fun W => Below W0.heap.size W0 W ∧ W.cell? ⟨w1.heap.size, 0, none⟩ = some (.int .i64 3) ∧ W.cell? ⟨w1.heap.size, 1, none⟩ = some (.int .i64 1000000) ∧ W.cell? ⟨w1.heap.size, 2, none⟩ = some (.int .i64 3) ∧ W.cell? ⟨w1.heap.size, 3, none⟩ = some (.int .i64 0) ∧ W.cell? ⟨w1.heap.size, 4, none⟩ = some (.int .i64 (-1)))
        ((refine (fun (K9 : Below W0.heap.size W0 _) => ⟨K9, (K9.cell hlt).trans e0, (K9.cell hlt).trans e1, (K9.cell hlt).trans e2, (K9.cell hlt).trans e3, (K9.cell hlt).trans e4⟩) ?_; repeat (first | (with_reducible exact Below.refl _ _) | (with_reducible assumption) | (with_reducible refine Below.drew ?_) | (with_reducible refine Below.setCell ?_ ?_ _; rotate_left; (first | omega | (simp; omega) | simp)) | (with_reducible refine Below.alloc ?_ ?_ _; rotate_left; (first | omega | (simp; omega) | simp)))))
        (first
          | (go_at_call 30; (with_reducible first | refine (offer_ex 0 4 0 128 _).mono ?_); rintro e w9 ⟨rfl, rfl⟩)
          | (go_at_call 18; refine (choose_lit 3 1000000 3 0 (-1) 4 128 4 128 0 [⟨0, 4, 0, 128⟩] _ 1 1 _ (offs_one 0 4 0 128 (by repeat (first | (with_reducible refine Whole.drew ?_) | (with_reducible refine Whole.new_at ?_; simp; done) | (with_reducible refine Whole.alloc ?_ _)))) (by omega) ch_b).mono ?_; rintro e W9 ⟨rfl, hb9⟩; have HB9 := Lib.hid hb9; have KB9 : Below W0.heap.size W0 W9 := below_next hb9 (by repeat (first | (with_reducible exact Below.refl _ _) | (with_reducible assumption) | (with_reducible refine Below.drew ?_) | (with_reducible refine Below.setCell ?_ ?_ _; rotate_left; (first | omega | (simp; omega) | simp)) | (with_reducible refine Below.alloc ?_ ?_ _; rotate_left; (first | omega | (simp; omega) | simp)))) (by simp; try omega); obtain ⟨hc9, hf9⟩ := bcell hb9; have hz9 := hb9.size; (try simp at hz9); clear hb9))
      all_goals
        go_wp2_with fail
        go_meet
        first
        | (with_reducible exact ⟨_, rfl, Whole.new_at rfl, KB9.alloc KB9.size _⟩)
        | exact ⟨_, rfl, ((((((Whole.below (t := 43) (cs := #[.int .i64 0, .int .i64 0, .int .i64 0, .int .i64 0, .int .i64 0]) (by repeat (first | (with_reducible refine Whole.drew ?_) | (with_reducible refine Whole.new_at ?_; simp; done) | (with_reducible refine Whole.alloc ?_ _))) HB9.out (by (first | omega | (simp; omega) | simp))).set 0 _).set 1 _).set 2 _).set 3 _).set 4 _), ((((KB9.setCell (by (first | omega | (simp; omega) | simp)) _).setCell (by (first | omega | (simp; omega) | simp)) _).setCell (by (first | omega | (simp; omega) | simp)) _).setCell (by (first | omega | (simp; omega) | simp)) _).setCell (by (first | omega | (simp; omega) | simp)) _⟩
    case rest =>
      obtain ⟨g_b, rfl, W_b, hK⟩ := hcut
      obtain ⟨w_b, rfl⟩ : ∃ x : World, x = wc := ⟨_, rfl⟩
      replace W_s := W_s.below hK W_s.lt
      replace W_a := W_a.below hK W_a.lt
      replace A_ := Lib.hid (below_next hK A_.out A_.out.size)
      clear hK
      go_upto_region 4 with fail
      go_cut [4] (fun s4 wx => ∃ g : Nat, s4 = .pointer (some ⟨g, 0, none⟩) ∧ Whole wx g 43 #[.int .i64 4, .int .i64 200, .int .i64 4, .int .i64 128, .int .i64 0] ∧ Below w_b.heap.size w_b wx)
      case first =>
        have e0 : w_b.cell? ⟨g_b, 0, none⟩ = some (.int .i64 4) := W_b.cell 0
        have e1 : w_b.cell? ⟨g_b, 1, none⟩ = some (.int .i64 128) := W_b.cell 1
        have e2 : w_b.cell? ⟨g_b, 2, none⟩ = some (.int .i64 4) := W_b.cell 2
        have e3 : w_b.cell? ⟨g_b, 3, none⟩ = some (.int .i64 128) := W_b.cell 3
        have e4 : w_b.cell? ⟨g_b, 4, none⟩ = some (.int .i64 0) := W_b.cell 4
        have hlt : g_b < w_b.heap.size := W_b.lt
        clear A_ W_s W_a W_b
        obtain ⟨W0, rfl⟩ : ∃ x : World, x = w_b := ⟨_, rfl⟩
        go_region_held3 (fun W => Below W0.heap.size W0 W ∧ W.cell? ⟨g_b, 0, none⟩ = some (.int .i64 4) ∧ W.cell? ⟨g_b, 1, none⟩ = some (.int .i64 128) ∧ W.cell? ⟨g_b, 2, none⟩ = some (.int .i64 4) ∧ W.cell? ⟨g_b, 3, none⟩ = some (.int .i64 128) ∧ W.cell? ⟨g_b, 4, none⟩ = some (.int .i64 0))
          ((refine (fun (K9 : Below W0.heap.size W0 _) => ⟨K9, (K9.cell hlt).trans e0, (K9.cell hlt).trans e1, (K9.cell hlt).trans e2, (K9.cell hlt).trans e3, (K9.cell hlt).trans e4⟩) ?_; repeat (first | (with_reducible exact Below.refl _ _) | (with_reducible assumption) | (with_reducible refine Below.drew ?_) | (with_reducible refine Below.setCell ?_ ?_ _; rotate_left; (first | omega | (simp; omega) | simp)) | (with_reducible refine Below.alloc ?_ ?_ _; rotate_left; (first | omega | (simp; omega) | simp)))))
          (first
            | (go_at_call 30; (with_reducible first | refine (offer_ex 5 4 100 128 _).mono ?_ | refine (offer_ex 0 4 0 200 _).mono ?_); rintro e w9 ⟨rfl, rfl⟩)
            | (go_at_call 18; refine (choose_lit 4 128 4 128 0 4 200 4 128 0 [⟨5, 4, 100, 128⟩, ⟨0, 4, 0, 200⟩] _ 2 2 _ (offs_two 5 4 100 128 0 4 0 200 (by repeat (first | (with_reducible refine Whole.drew ?_) | (with_reducible refine Whole.new_at ?_; simp; done) | (with_reducible refine Whole.alloc ?_ _)))) (by omega) ch_c).mono ?_; rintro e W9 ⟨rfl, hb9⟩; have HB9 := Lib.hid hb9; have KB9 : Below W0.heap.size W0 W9 := below_next hb9 (by repeat (first | (with_reducible exact Below.refl _ _) | (with_reducible assumption) | (with_reducible refine Below.drew ?_) | (with_reducible refine Below.setCell ?_ ?_ _; rotate_left; (first | omega | (simp; omega) | simp)) | (with_reducible refine Below.alloc ?_ ?_ _; rotate_left; (first | omega | (simp; omega) | simp)))) (by simp; try omega); obtain ⟨hc9, hf9⟩ := bcell hb9; have hz9 := hb9.size; (try simp at hz9); clear hb9))
        all_goals
          go_wp2_with fail
          go_meet
          first
          | (with_reducible exact ⟨_, rfl, Whole.new_at rfl, KB9.alloc KB9.size _⟩)
          | exact ⟨_, rfl, ((((((Whole.below (t := 43) (cs := #[.int .i64 0, .int .i64 0, .int .i64 0, .int .i64 0, .int .i64 0]) (by repeat (first | (with_reducible refine Whole.drew ?_) | (with_reducible refine Whole.new_at ?_; simp; done) | (with_reducible refine Whole.alloc ?_ _))) HB9.out (by (first | omega | (simp; omega) | simp))).set 0 _).set 1 _).set 2 _).set 3 _).set 4 _), ((((KB9.setCell (by (first | omega | (simp; omega) | simp)) _).setCell (by (first | omega | (simp; omega) | simp)) _).setCell (by (first | omega | (simp; omega) | simp)) _).setCell (by (first | omega | (simp; omega) | simp)) _).setCell (by (first | omega | (simp; omega) | simp)) _⟩
      case rest =>
        obtain ⟨g_c, rfl, W_c, hK⟩ := hcut
        obtain ⟨w_c, rfl⟩ : ∃ x : World, x = wc := ⟨_, rfl⟩
        replace W_s := W_s.below hK W_s.lt
        replace W_a := W_a.below hK W_a.lt
        replace W_b := W_b.below hK W_b.lt
        replace A_ := Lib.hid (below_next hK A_.out A_.out.size)
        clear hK
        go_upto_region 5 with fail
        go_cut [5] (fun s5 wx => ∃ g : Nat, s5 = .pointer (some ⟨g, 0, none⟩) ∧ Whole wx g 43 #[.int .i64 4, .int .i64 428, .int .i64 4, .int .i64 128, .int .i64 0] ∧ Below w_c.heap.size w_c wx)
        case first =>
          have e0 : w_c.cell? ⟨g_c, 0, none⟩ = some (.int .i64 4) := W_c.cell 0
          have e1 : w_c.cell? ⟨g_c, 1, none⟩ = some (.int .i64 200) := W_c.cell 1
          have e2 : w_c.cell? ⟨g_c, 2, none⟩ = some (.int .i64 4) := W_c.cell 2
          have e3 : w_c.cell? ⟨g_c, 3, none⟩ = some (.int .i64 128) := W_c.cell 3
          have e4 : w_c.cell? ⟨g_c, 4, none⟩ = some (.int .i64 0) := W_c.cell 4
          have hlt : g_c < w_c.heap.size := W_c.lt
          clear A_ W_s W_a W_b W_c
          obtain ⟨W0, rfl⟩ : ∃ x : World, x = w_c := ⟨_, rfl⟩
          go_region_held3 (fun W => Below W0.heap.size W0 W ∧ W.cell? ⟨g_c, 0, none⟩ = some (.int .i64 4) ∧ W.cell? ⟨g_c, 1, none⟩ = some (.int .i64 200) ∧ W.cell? ⟨g_c, 2, none⟩ = some (.int .i64 4) ∧ W.cell? ⟨g_c, 3, none⟩ = some (.int .i64 128) ∧ W.cell? ⟨g_c, 4, none⟩ = some (.int .i64 0))
            ((refine (fun (K9 : Below W0.heap.size W0 _) => ⟨K9, (K9.cell hlt).trans e0, (K9.cell hlt).trans e1, (K9.cell hlt).trans e2, (K9.cell hlt).trans e3, (K9.cell hlt).trans e4⟩) ?_; repeat (first | (with_reducible exact Below.refl _ _) | (with_reducible assumption) | (with_reducible refine Below.drew ?_) | (with_reducible refine Below.setCell ?_ ?_ _; rotate_left; (first | omega | (simp; omega) | simp)) | (with_reducible refine Below.alloc ?_ ?_ _; rotate_left; (first | omega | (simp; omega) | simp)))))
            (first
              | (go_at_call 30; (with_reducible first | refine (offer_ex 0 4 300 128 _).mono ?_); rintro e w9 ⟨rfl, rfl⟩)
              | (go_at_call 18; refine (choose_lit 4 200 4 128 0 4 428 4 128 0 [⟨0, 4, 300, 128⟩] _ 1 1 _ (offs_one 0 4 300 128 (by repeat (first | (with_reducible refine Whole.drew ?_) | (with_reducible refine Whole.new_at ?_; simp; done) | (with_reducible refine Whole.alloc ?_ _)))) (by omega) ch_d).mono ?_; rintro e W9 ⟨rfl, hb9⟩; have HB9 := Lib.hid hb9; have KB9 : Below W0.heap.size W0 W9 := below_next hb9 (by repeat (first | (with_reducible exact Below.refl _ _) | (with_reducible assumption) | (with_reducible refine Below.drew ?_) | (with_reducible refine Below.setCell ?_ ?_ _; rotate_left; (first | omega | (simp; omega) | simp)) | (with_reducible refine Below.alloc ?_ ?_ _; rotate_left; (first | omega | (simp; omega) | simp)))) (by simp; try omega); obtain ⟨hc9, hf9⟩ := bcell hb9; have hz9 := hb9.size; (try simp at hz9); clear hb9))
          all_goals
            go_wp2_with fail
            go_meet
            first
            | (with_reducible exact ⟨_, rfl, Whole.new_at rfl, KB9.alloc KB9.size _⟩)
            | exact ⟨_, rfl, ((((((Whole.below (t := 43) (cs := #[.int .i64 0, .int .i64 0, .int .i64 0, .int .i64 0, .int .i64 0]) (by repeat (first | (with_reducible refine Whole.drew ?_) | (with_reducible refine Whole.new_at ?_; simp; done) | (with_reducible refine Whole.alloc ?_ _))) HB9.out (by (first | omega | (simp; omega) | simp))).set 0 _).set 1 _).set 2 _).set 3 _).set 4 _), ((((KB9.setCell (by (first | omega | (simp; omega) | simp)) _).setCell (by (first | omega | (simp; omega) | simp)) _).setCell (by (first | omega | (simp; omega) | simp)) _).setCell (by (first | omega | (simp; omega) | simp)) _).setCell (by (first | omega | (simp; omega) | simp)) _⟩
        case rest =>
          obtain ⟨g_d, rfl, W_d, hK⟩ := hcut
          obtain ⟨w_d, rfl⟩ : ∃ x : World, x = wc := ⟨_, rfl⟩
          replace W_s := W_s.below hK W_s.lt
          replace W_a := W_a.below hK W_a.lt
          replace W_b := W_b.below hK W_b.lt
          replace W_c := W_c.below hK W_c.lt
          replace A_ := Lib.hid (below_next hK A_.out A_.out.size)
          clear hK
          go_upto_region 6 with fail
          go_cut [6] (fun s6 wx => ∃ g : Nat, s6 = .pointer (some ⟨g, 0, none⟩) ∧ Whole wx g 43 #[.int .i64 4, .int .i64 255, .int .i64 4, .int .i64 128, .int .i64 5] ∧ Below w_d.heap.size w_d wx)
          case first =>
            have e0 : w_d.cell? ⟨g_d, 0, none⟩ = some (.int .i64 4) := W_d.cell 0
            have e1 : w_d.cell? ⟨g_d, 1, none⟩ = some (.int .i64 428) := W_d.cell 1
            have e2 : w_d.cell? ⟨g_d, 2, none⟩ = some (.int .i64 4) := W_d.cell 2
            have e3 : w_d.cell? ⟨g_d, 3, none⟩ = some (.int .i64 128) := W_d.cell 3
            have e4 : w_d.cell? ⟨g_d, 4, none⟩ = some (.int .i64 0) := W_d.cell 4
            have hlt : g_d < w_d.heap.size := W_d.lt
            clear A_ W_s W_a W_b W_c W_d
            obtain ⟨W0, rfl⟩ : ∃ x : World, x = w_d := ⟨_, rfl⟩
            go_region_held3 (fun W => Below W0.heap.size W0 W ∧ W.cell? ⟨g_d, 0, none⟩ = some (.int .i64 4) ∧ W.cell? ⟨g_d, 1, none⟩ = some (.int .i64 428) ∧ W.cell? ⟨g_d, 2, none⟩ = some (.int .i64 4) ∧ W.cell? ⟨g_d, 3, none⟩ = some (.int .i64 128) ∧ W.cell? ⟨g_d, 4, none⟩ = some (.int .i64 0))
              ((refine (fun (K9 : Below W0.heap.size W0 _) => ⟨K9, (K9.cell hlt).trans e0, (K9.cell hlt).trans e1, (K9.cell hlt).trans e2, (K9.cell hlt).trans e3, (K9.cell hlt).trans e4⟩) ?_; repeat (first | (with_reducible exact Below.refl _ _) | (with_reducible assumption) | (with_reducible refine Below.drew ?_) | (with_reducible refine Below.setCell ?_ ?_ _; rotate_left; (first | omega | (simp; omega) | simp)) | (with_reducible refine Below.alloc ?_ ?_ _; rotate_left; (first | omega | (simp; omega) | simp)))))
              (first
                | (go_at_call 30; (with_reducible first | refine (offer_ex 5 4 127 128 _).mono ?_); rintro e w9 ⟨rfl, rfl⟩)
                | (go_at_call 18; refine (choose_lit 4 428 4 128 0 4 255 4 128 5 [⟨5, 4, 127, 128⟩] _ 1 1 _ (offs_one 5 4 127 128 (by repeat (first | (with_reducible refine Whole.drew ?_) | (with_reducible refine Whole.new_at ?_; simp; done) | (with_reducible refine Whole.alloc ?_ _)))) (by omega) ch_e).mono ?_; rintro e W9 ⟨rfl, hb9⟩; have HB9 := Lib.hid hb9; have KB9 : Below W0.heap.size W0 W9 := below_next hb9 (by repeat (first | (with_reducible exact Below.refl _ _) | (with_reducible assumption) | (with_reducible refine Below.drew ?_) | (with_reducible refine Below.setCell ?_ ?_ _; rotate_left; (first | omega | (simp; omega) | simp)) | (with_reducible refine Below.alloc ?_ ?_ _; rotate_left; (first | omega | (simp; omega) | simp)))) (by simp; try omega); obtain ⟨hc9, hf9⟩ := bcell hb9; have hz9 := hb9.size; (try simp at hz9); clear hb9))
            all_goals
              go_wp2_with fail
              go_meet
              first
              | (with_reducible exact ⟨_, rfl, Whole.new_at rfl, KB9.alloc KB9.size _⟩)
              | exact ⟨_, rfl, ((((((Whole.below (t := 43) (cs := #[.int .i64 0, .int .i64 0, .int .i64 0, .int .i64 0, .int .i64 0]) (by repeat (first | (with_reducible refine Whole.drew ?_) | (with_reducible refine Whole.new_at ?_; simp; done) | (with_reducible refine Whole.alloc ?_ _))) HB9.out (by (first | omega | (simp; omega) | simp))).set 0 _).set 1 _).set 2 _).set 3 _).set 4 _), ((((KB9.setCell (by (first | omega | (simp; omega) | simp)) _).setCell (by (first | omega | (simp; omega) | simp)) _).setCell (by (first | omega | (simp; omega) | simp)) _).setCell (by (first | omega | (simp; omega) | simp)) _).setCell (by (first | omega | (simp; omega) | simp)) _⟩
          case rest =>
            obtain ⟨g_e, rfl, W_e, hK⟩ := hcut
            obtain ⟨w_e, rfl⟩ : ∃ x : World, x = wc := ⟨_, rfl⟩
            replace W_s := W_s.below hK W_s.lt
            replace W_a := W_a.below hK W_a.lt
            replace W_b := W_b.below hK W_b.lt
            replace W_c := W_c.below hK W_c.lt
            replace W_d := W_d.below hK W_d.lt
            replace A_ := Lib.hid (below_next hK A_.out A_.out.size)
            clear hK
            go_upto_region 7 with fail
            go_cut [7] (fun s7 wx => ∃ g : Nat, s7 = .pointer (some ⟨g, 0, none⟩) ∧ Whole wx g 43 #[.int .i64 4, .int .i64 1000000, .int .i64 4, .int .i64 128, .int .i64 (-1)] ∧ Below w_e.heap.size w_e wx)
            case first =>
              have e0 : w_e.cell? ⟨g_e, 0, none⟩ = some (.int .i64 4) := W_e.cell 0
              have e1 : w_e.cell? ⟨g_e, 1, none⟩ = some (.int .i64 255) := W_e.cell 1
              have e2 : w_e.cell? ⟨g_e, 2, none⟩ = some (.int .i64 4) := W_e.cell 2
              have e3 : w_e.cell? ⟨g_e, 3, none⟩ = some (.int .i64 128) := W_e.cell 3
              have e4 : w_e.cell? ⟨g_e, 4, none⟩ = some (.int .i64 5) := W_e.cell 4
              have hlt : g_e < w_e.heap.size := W_e.lt
              clear A_ W_s W_a W_b W_c W_d W_e
              obtain ⟨W0, rfl⟩ : ∃ x : World, x = w_e := ⟨_, rfl⟩
              go_region_held3 (fun W => Below W0.heap.size W0 W ∧ W.cell? ⟨g_e, 0, none⟩ = some (.int .i64 4) ∧ W.cell? ⟨g_e, 1, none⟩ = some (.int .i64 255) ∧ W.cell? ⟨g_e, 2, none⟩ = some (.int .i64 4) ∧ W.cell? ⟨g_e, 3, none⟩ = some (.int .i64 128) ∧ W.cell? ⟨g_e, 4, none⟩ = some (.int .i64 5))
                ((refine (fun (K9 : Below W0.heap.size W0 _) => ⟨K9, (K9.cell hlt).trans e0, (K9.cell hlt).trans e1, (K9.cell hlt).trans e2, (K9.cell hlt).trans e3, (K9.cell hlt).trans e4⟩) ?_; repeat (first | (with_reducible exact Below.refl _ _) | (with_reducible assumption) | (with_reducible refine Below.drew ?_) | (with_reducible refine Below.setCell ?_ ?_ _; rotate_left; (first | omega | (simp; omega) | simp)) | (with_reducible refine Below.alloc ?_ ?_ _; rotate_left; (first | omega | (simp; omega) | simp)))))
                (first
                  | (go_at_call 30; (with_reducible first | refine (offer_ex 5 4 1000000 128 _).mono ?_ | refine (offer_ex 6 4 128 128 _).mono ?_); rintro e w9 ⟨rfl, rfl⟩)
                  | (go_at_call 18; refine (choose_lit 4 255 4 128 5 4 1000000 4 128 (-1) [⟨5, 4, 1000000, 128⟩, ⟨6, 4, 128, 128⟩] _ 2 2 _ (offs_two 5 4 1000000 128 6 4 128 128 (by repeat (first | (with_reducible refine Whole.drew ?_) | (with_reducible refine Whole.new_at ?_; simp; done) | (with_reducible refine Whole.alloc ?_ _)))) (by omega) ch_f).mono ?_; rintro e W9 ⟨rfl, hb9⟩; have HB9 := Lib.hid hb9; have KB9 : Below W0.heap.size W0 W9 := below_next hb9 (by repeat (first | (with_reducible exact Below.refl _ _) | (with_reducible assumption) | (with_reducible refine Below.drew ?_) | (with_reducible refine Below.setCell ?_ ?_ _; rotate_left; (first | omega | (simp; omega) | simp)) | (with_reducible refine Below.alloc ?_ ?_ _; rotate_left; (first | omega | (simp; omega) | simp)))) (by simp; try omega); obtain ⟨hc9, hf9⟩ := bcell hb9; have hz9 := hb9.size; (try simp at hz9); clear hb9))
              all_goals
                go_wp2_with fail
                go_meet
                first
                | (with_reducible exact ⟨_, rfl, Whole.new_at rfl, KB9.alloc KB9.size _⟩)
                | exact ⟨_, rfl, ((((((Whole.below (t := 43) (cs := #[.int .i64 0, .int .i64 0, .int .i64 0, .int .i64 0, .int .i64 0]) (by repeat (first | (with_reducible refine Whole.drew ?_) | (with_reducible refine Whole.new_at ?_; simp; done) | (with_reducible refine Whole.alloc ?_ _))) HB9.out (by (first | omega | (simp; omega) | simp))).set 0 _).set 1 _).set 2 _).set 3 _).set 4 _), ((((KB9.setCell (by (first | omega | (simp; omega) | simp)) _).setCell (by (first | omega | (simp; omega) | simp)) _).setCell (by (first | omega | (simp; omega) | simp)) _).setCell (by (first | omega | (simp; omega) | simp)) _).setCell (by (first | omega | (simp; omega) | simp)) _⟩
            case rest =>
              obtain ⟨g_f, rfl, W_f, hK⟩ := hcut
              obtain ⟨w_f, rfl⟩ : ∃ x : World, x = wc := ⟨_, rfl⟩
              replace W_s := W_s.below hK W_s.lt
              replace W_a := W_a.below hK W_a.lt
              replace W_b := W_b.below hK W_b.lt
              replace W_c := W_c.below hK W_c.lt
              replace W_d := W_d.below hK W_d.lt
              replace W_e := W_e.below hK W_e.lt
              replace A_ := Lib.hid (below_next hK A_.out A_.out.size)
              clear hK
              have lw := W_s.lt
              obtain ⟨c0, c1, c2, c3, c4, _⟩ := Whole.route (r := ⟨3, 1000000, 3, 0, -1⟩) W_s
              go_wp2_with fail
              (with_reducible refine (is_yes 3 1000000 0 (-1) _).mono ?_)
              rintro e v_s ⟨rfl, hK⟩
              replace W_s := W_s.below hK W_s.lt
              replace W_a := W_a.below hK W_a.lt
              replace W_b := W_b.below hK W_b.lt
              replace W_c := W_c.below hK W_c.lt
              replace W_d := W_d.below hK W_d.lt
              replace W_e := W_e.below hK W_e.lt
              replace W_f := W_f.below hK W_f.lt
              replace A_ := Lib.hid (below_next hK A_.out A_.out.size)
              clear hK c0 c1 c2 c3 c4
              obtain ⟨c0, c1, c2, c3, c4, _⟩ := Whole.route (r := ⟨3, 1000000, 3, 0, -1⟩) W_a
              go_wp2_with fail
              (with_reducible refine (is_yes 3 1000000 0 (-1) _).mono ?_)
              rintro e v_a ⟨rfl, hK⟩
              replace W_s := W_s.below hK W_s.lt
              replace W_a := W_a.below hK W_a.lt
              replace W_b := W_b.below hK W_b.lt
              replace W_c := W_c.below hK W_c.lt
              replace W_d := W_d.below hK W_d.lt
              replace W_e := W_e.below hK W_e.lt
              replace W_f := W_f.below hK W_f.lt
              replace A_ := Lib.hid (below_next hK A_.out A_.out.size)
              clear hK c0 c1 c2 c3 c4
              obtain ⟨c0, c1, c2, c3, c4, _⟩ := Whole.route (r := ⟨4, 128, 4, 128, 0⟩) W_b
              go_wp2_with fail
              (with_reducible refine (is_yes 4 128 128 0 _).mono ?_)
              rintro e v_b ⟨rfl, hK⟩
              replace W_s := W_s.below hK W_s.lt
              replace W_a := W_a.below hK W_a.lt
              replace W_b := W_b.below hK W_b.lt
              replace W_c := W_c.below hK W_c.lt
              replace W_d := W_d.below hK W_d.lt
              replace W_e := W_e.below hK W_e.lt
              replace W_f := W_f.below hK W_f.lt
              replace A_ := Lib.hid (below_next hK A_.out A_.out.size)
              clear hK c0 c1 c2 c3 c4
              obtain ⟨c0, c1, c2, c3, c4, _⟩ := Whole.route (r := ⟨4, 200, 4, 128, 0⟩) W_c
              go_wp2_with fail
              (with_reducible refine (is_yes 4 200 128 0 _).mono ?_)
              rintro e v_c ⟨rfl, hK⟩
              replace W_s := W_s.below hK W_s.lt
              replace W_a := W_a.below hK W_a.lt
              replace W_b := W_b.below hK W_b.lt
              replace W_c := W_c.below hK W_c.lt
              replace W_d := W_d.below hK W_d.lt
              replace W_e := W_e.below hK W_e.lt
              replace W_f := W_f.below hK W_f.lt
              replace A_ := Lib.hid (below_next hK A_.out A_.out.size)
              clear hK c0 c1 c2 c3 c4
              obtain ⟨c0, c1, c2, c3, c4, _⟩ := Whole.route (r := ⟨4, 428, 4, 128, 0⟩) W_d
              go_wp2_with fail
              (with_reducible refine (is_yes 4 428 128 0 _).mono ?_)
              rintro e v_d ⟨rfl, hK⟩
              replace W_s := W_s.below hK W_s.lt
              replace W_a := W_a.below hK W_a.lt
              replace W_b := W_b.below hK W_b.lt
              replace W_c := W_c.below hK W_c.lt
              replace W_d := W_d.below hK W_d.lt
              replace W_e := W_e.below hK W_e.lt
              replace W_f := W_f.below hK W_f.lt
              replace A_ := Lib.hid (below_next hK A_.out A_.out.size)
              clear hK c0 c1 c2 c3 c4
              obtain ⟨c0, c1, c2, c3, c4, _⟩ := Whole.route (r := ⟨4, 255, 4, 128, 5⟩) W_e
              go_wp2_with fail
              (with_reducible refine (is_yes 4 255 128 5 _).mono ?_)
              rintro e v_e ⟨rfl, hK⟩
              replace W_s := W_s.below hK W_s.lt
              replace W_a := W_a.below hK W_a.lt
              replace W_b := W_b.below hK W_b.lt
              replace W_c := W_c.below hK W_c.lt
              replace W_d := W_d.below hK W_d.lt
              replace W_e := W_e.below hK W_e.lt
              replace W_f := W_f.below hK W_f.lt
              replace A_ := Lib.hid (below_next hK A_.out A_.out.size)
              clear hK c0 c1 c2 c3 c4
              obtain ⟨c0, c1, c2, c3, c4, _⟩ := Whole.route (r := ⟨4, 1000000, 4, 128, -1⟩) W_f
              go_wp2_with fail
              (with_reducible refine (is_yes 4 1000000 128 (-1) _).mono ?_)
              rintro e v_f ⟨rfl, hK⟩
              replace W_s := W_s.below hK W_s.lt
              replace W_a := W_a.below hK W_a.lt
              replace W_b := W_b.below hK W_b.lt
              replace W_c := W_c.below hK W_c.lt
              replace W_d := W_d.below hK W_d.lt
              replace W_e := W_e.below hK W_e.lt
              replace W_f := W_f.below hK W_f.lt
              replace A_ := Lib.hid (below_next hK A_.out A_.out.size)
              clear hK c0 c1 c2 c3 c4
              go_wp2_with fail
              (with_reducible refine (start_is true 2 ⟨2, 0, 2, 0, -1⟩ _ st_r).mono ?_)
              rintro e y1 ⟨rfl, hK⟩
              replace W_b := W_b.below hK W_b.lt
              replace A_ := Lib.hid (below_next hK A_.out A_.out.size)
              clear hK
              go_wp2_with fail
              (with_reducible refine (renew_lit 2 0 2 0 (-1) 7 7 0 7 0 (-1) _ rn_r).mono ?_)
              rintro e y2 ⟨rfl, hK⟩
              replace W_b := W_b.below hK W_b.lt
              replace A_ := Lib.hid (below_next hK A_.out A_.out.size)
              clear hK
              go_wp2_with fail
              (with_reducible refine (is_yes 7 0 0 (-1) _).mono ?_)
              rintro e y3 ⟨rfl, hK⟩
              replace W_b := W_b.below hK W_b.lt
              replace A_ := Lib.hid (below_next hK A_.out A_.out.size)
              clear hK
              go_wp2_with fail
              (with_reducible refine (better_is 1 9 0 0 true _ be_r).mono ?_)
              rintro e y4 ⟨rfl, hK⟩
              replace W_b := W_b.below hK W_b.lt
              replace A_ := Lib.hid (below_next hK A_.out A_.out.size)
              clear hK
              obtain ⟨c0, c1, c2, c3, c4, _⟩ := Whole.route (r := ⟨4, 128, 4, 128, 0⟩) W_b
              go_wp2_with fail
              (with_reducible refine (feasible_is 4 128 4 128 0 4 127 true _ fe_1).mono ?_)
              rintro e y5 ⟨rfl, hK⟩
              replace W_b := W_b.below hK W_b.lt
              replace A_ := Lib.hid (below_next hK A_.out A_.out.size)
              clear hK c0 c1 c2 c3 c4
              obtain ⟨c0, c1, c2, c3, c4, _⟩ := Whole.route (r := ⟨4, 128, 4, 128, 0⟩) W_b
              go_wp2_with fail
              (with_reducible refine (feasible_is 4 128 4 128 0 4 128 false _ fe_2).mono ?_)
              rintro e y6 ⟨rfl, hK⟩
              replace A_ := Lib.hid (below_next hK A_.out A_.out.size)
              go_wp2
              go_ret
              exact ⟨rfl, A_.out⟩

end Go.Proofs.Ytefnjhdmpnfacaa
