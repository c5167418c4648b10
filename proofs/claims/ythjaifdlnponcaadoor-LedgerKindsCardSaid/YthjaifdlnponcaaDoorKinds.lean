/- Sleeping costs something and less than listening, listening less than sending; no other number is a kind; a ledger lasts longer with a kind that costs less. No conditions beyond the table's content, which is tied to the program's text. -/
import Derived.Test.YthjaifdlnponcaaDoorFrame
import Derived.OpenShut
import Derived.ShutString
import Derived.Test.YthjaifdlnponcaaDoorCards
import Derived.Test.YthjaifdlnponcaaDoorTie
import Derived.SevenTiedAt
namespace Go.Proofs.YthjaifdlnponcaaDoor.ledgerKinds
open Go.ChangeShapes Go.WideShapes Go.ChangeAt Go.RowKit Go.Joins Go.BigFrame
set_option linter.unusedVariables false

theorem longer (l s : Int) : lastsF l s 1 ≤ lastsF l s 0 ∧ lastsF l s 2 ≤ lastsF l s 1 := by
  unfold lastsF
  have c0 : costF 0 = 1 := rfl
  have c1 : costF 1 = 40 := rfl
  have c2 : costF 2 = 60 := rfl
  rw [c0, c1, c2]
  by_cases h : validB l s = true
  · have := valid_bd h
    rw [if_pos ⟨h, by omega⟩, if_pos ⟨h, by omega⟩, if_pos ⟨h, by omega⟩]
    omega
  · rw [if_neg (fun k => h k.1), if_neg (fun k => h k.1), if_neg (fun k => h k.1)]
    omega
theorem k0 : (1 : Int) = costF 0 := rfl
theorem k1 : (40 : Int) = costF 1 := rfl
theorem k2 : (60 : Int) = costF 2 := rfl

theorem walk (l s : Int) (a1 : Int) (w1 : (Lit.int .i64 a1).wf = true) (w : World) (hL : Laid w) :
    Calls Tryd.prog 8 #[.agg #[.int .i64 l, .int .i64 s], .int .i64 a1] w fun e w' => e = .returned (.bool true) ∧ Below w.heap.size w w' := by
  obtain ⟨e1, e2⟩ := longer l s
  obtain ⟨r0, h0⟩ : ∃ r, r = lastsF l s 0 := ⟨_, rfl⟩
  obtain ⟨r1, h1⟩ : ∃ r, r = lastsF l s 1 := ⟨_, rfl⟩
  obtain ⟨r2, h2⟩ : ∃ r, r = lastsF l s 2 := ⟨_, rfl⟩
  obtain ⟨c, hc⟩ : ∃ c, c = costF a1 := ⟨_, rfl⟩
  rw [← h0, ← h1] at e1
  rw [← h1, ← h2] at e2
  have H0 := Lib.hid h0
  have H1 := Lib.hid h1
  have H2 := Lib.hid h2
  have HC := Lib.hid hc
  have K := Kept.new (l := l) (s := s) hL
  have HL := Lib.hid hL
  have d1 : decide (r1 ≤ r0) = true := decide_eq_true e1
  have d2 : decide (r2 ≤ r1) = true := decide_eq_true e2
  have cases_ : (a1 < 0 ∧ c = 0) ∨ (2 < a1 ∧ c = 0) ∨ (0 ≤ a1 ∧ a1 ≤ 2) := by
    rw [hc]
    unfold costF
    split
    · omega
    · split
      · omega
      · split <;> omega
  clear h0 h1 h2 hc hL e1 e2
  rcases cases_ with ⟨g1, rfl⟩ | ⟨g1, rfl⟩ | ⟨g1, g2⟩
  · have g3 : decide (0 ≤ a1) = false := decide_eq_false (by omega)
    go_enter Tryd.func8, Tryd.ntmps8
    go_wp2_with fail
    (with_reducible refine (head_kept K).mono ?_)
    rintro e w1 ⟨rfl, K1⟩
    clear K
    go_wp2_with (first
      | (go_at_call 12; (with_reducible first | refine (cost_is 0 1 _ K1.laid k0).mono ?_ | refine (cost_is 1 40 _ K1.laid k1).mono ?_ | refine (cost_is 2 60 _ K1.laid k2).mono ?_ | refine (cost_is a1 0 _ K1.laid HC.out).mono ?_); rintro e w2 ⟨rfl, rfl⟩))
    have x0 : ∀ u, (ext w1 u).cell? ⟨w.heap.size, 0, none⟩ = some (.int .i64 l) := fun u => (ext_cell w1 u K1.lt).trans K1.c0
    have x1 : ∀ u, (ext w1 u).cell? ⟨w.heap.size, 1, none⟩ = some (.int .i64 s) := fun u => (ext_cell w1 u K1.lt).trans K1.c1
    refine wp_region_ext (by kernel_rfl) (by kernel_rfl) ?_
    repeat (go_big_quiet_step ((go_at_call 14; with_reducible first | exact calls_ext (lasts_is l s 0 r0 _ (K1.laid.below (ext_below _ _)) H0.out) | exact calls_ext (lasts_is l s 1 r1 _ (K1.laid.below (ext_below _ _)) H1.out) | exact calls_ext (lasts_is l s 2 r2 _ (K1.laid.below (ext_below _ _)) H2.out))))
    refine wpQuiet_nil ?_
    rintro _ ⟨u, rfl⟩
    go_wp2
    go_ret
    exact ⟨rfl, below_next (ext_below _ _) K1.acc K1.acc.size⟩
  · have g3 : decide (0 ≤ a1) = true := decide_eq_true (by omega)
    have g4 : decide (a1 ≤ 2) = false := decide_eq_false (by omega)
    go_enter Tryd.func8, Tryd.ntmps8
    go_wp2_with fail
    (with_reducible refine (head_kept K).mono ?_)
    rintro e w1 ⟨rfl, K1⟩
    clear K
    go_wp2_with (first
      | (go_at_call 12; (with_reducible first | refine (cost_is 0 1 _ K1.laid k0).mono ?_ | refine (cost_is 1 40 _ K1.laid k1).mono ?_ | refine (cost_is 2 60 _ K1.laid k2).mono ?_ | refine (cost_is a1 0 _ K1.laid HC.out).mono ?_); rintro e w2 ⟨rfl, rfl⟩))
    have x0 : ∀ u, (ext w1 u).cell? ⟨w.heap.size, 0, none⟩ = some (.int .i64 l) := fun u => (ext_cell w1 u K1.lt).trans K1.c0
    have x1 : ∀ u, (ext w1 u).cell? ⟨w.heap.size, 1, none⟩ = some (.int .i64 s) := fun u => (ext_cell w1 u K1.lt).trans K1.c1
    refine wp_region_ext (by kernel_rfl) (by kernel_rfl) ?_
    repeat (go_big_quiet_step ((go_at_call 14; with_reducible first | exact calls_ext (lasts_is l s 0 r0 _ (K1.laid.below (ext_below _ _)) H0.out) | exact calls_ext (lasts_is l s 1 r1 _ (K1.laid.below (ext_below _ _)) H1.out) | exact calls_ext (lasts_is l s 2 r2 _ (K1.laid.below (ext_below _ _)) H2.out))))
    refine wpQuiet_nil ?_
    rintro _ ⟨u, rfl⟩
    go_wp2
    go_ret
    exact ⟨rfl, below_next (ext_below _ _) K1.acc K1.acc.size⟩
  · have g3 : decide (0 ≤ a1) = true := decide_eq_true (by omega)
    have g4 : decide (a1 ≤ 2) = true := decide_eq_true (by omega)
    go_enter Tryd.func8, Tryd.ntmps8
    go_wp2_with fail
    (with_reducible refine (head_kept K).mono ?_)
    rintro e w1 ⟨rfl, K1⟩
    clear K
    go_wp2_with (first
      | (go_at_call 12; (with_reducible first | refine (cost_is 0 1 _ K1.laid k0).mono ?_ | refine (cost_is 1 40 _ K1.laid k1).mono ?_ | refine (cost_is 2 60 _ K1.laid k2).mono ?_ | refine (cost_is a1 c _ K1.laid HC.out).mono ?_); rintro e w2 ⟨rfl, rfl⟩))
    have x0 : ∀ u, (ext w1 u).cell? ⟨w.heap.size, 0, none⟩ = some (.int .i64 l) := fun u => (ext_cell w1 u K1.lt).trans K1.c0
    have x1 : ∀ u, (ext w1 u).cell? ⟨w.heap.size, 1, none⟩ = some (.int .i64 s) := fun u => (ext_cell w1 u K1.lt).trans K1.c1
    refine wp_region_ext (by kernel_rfl) (by kernel_rfl) ?_
    repeat (go_big_quiet_step ((go_at_call 14; with_reducible first | exact calls_ext (lasts_is l s 0 r0 _ (K1.laid.below (ext_below _ _)) H0.out) | exact calls_ext (lasts_is l s 1 r1 _ (K1.laid.below (ext_below _ _)) H1.out) | exact calls_ext (lasts_is l s 2 r2 _ (K1.laid.below (ext_below _ _)) H2.out))))
    refine wpQuiet_nil ?_
    rintro _ ⟨u, rfl⟩
    go_wp2
    go_ret
    exact ⟨rfl, below_next (ext_below _ _) K1.acc K1.acc.size⟩

theorem laidWorld_row (os : Os) : ((laidWorld os).forCall (fun _ _ => 0) ⟨#[], #[.agg #[.int .i64 0, .int .i64 0], .int .i64 0], []⟩).memory.heap[0]? = some (.cells costCells 38 (0, 0)) := by kernel_rfl

set_option maxRecDepth 100000 in
theorem lifted (os : Os) (started : os.Started) (H : Type) (enc : TypeId × Value → H) :
    ReturnsInHanded {} Tryd.checked os 8 .any (fun w args => (Rows.ledgerKindsSpec.pre enc Tryd.prog Tryd.f8 [] false w args ∧ laidMet Tryd.prog [("slotmesh/ledger.costs", Rows.laid_slotmesh_ledger_costs)] w) ∧ sizedMet enc Tryd.prog Tryd.f8 (OpenSpec.ofChange Rows.ledgerKindsSpec) false w args)
      (Rows.ledgerKindsSpec.post enc Tryd.prog Tryd.f8 false true false false) := by
  refine returnsInHanded_of_change_and (C := Tryd.checked) (X := fun w _ => laidMet Tryd.prog [("slotmesh/ledger.costs", Rows.laid_slotmesh_ledger_costs)] w) (fun _ _ _ hh h => h.of_heap hh) own started (by kernel_rfl) Tryd.func8
    (ChangeSpec.witness_at (enc := enc) (C := Tryd.checked) (os := os) (X := fun w _ => laidMet Tryd.prog [("slotmesh/ledger.costs", Rows.laid_slotmesh_ledger_costs)] w) false (laidWorld os) #[.agg #[.int .i64 0, .int .i64 0], .int .i64 0] 8 rfl (by kernel_rfl) (by kernel_rfl) (by kernel_rfl) (by kernel_rfl) (by kernel_rfl)
      ⟨_, ⟨0, 38, costCells, 8, [], [], by kernel_rfl, by kernel_rfl, by kernel_rfl, by kernel_rfl, rfl, rfl⟩, by decide, fun b off h => by
        have h' : MemPlace.cell b off ∈ [MemPlace.cell 0 0, .cell 0 1, .cell 0 2] := h
        have hb : b = 0 := by
          simp at h'
          omega
        subst hb
        refine ⟨⟨_, _, laidWorld_row os⟩, fun u v hc => ?_⟩
        simp only [World.cell?, laidWorld_row os] at hc
        simp at h'
        rcases h' with rfl | rfl | rfl <;> simp [costCells] at hc⟩) ?_
  intro W base args ds gs before hval0 hW _ _ hL _
  have hval : ∀ (j : Nat) t v, Tryd.f8.params[j]? = some t → args[j]? = some v → Value.okWide Tryd.prog W .any base t v := hval0
  have hW' := hW
  obtain ⟨p, q, hA0, hV, rfl, hfz, hnd⟩ := hW
  have hA : DataW.TrodAll enc Tryd.prog W 0 (fun _ => true) true Tryd.f8.params.toList args.toList ds p := hA0
  rw [Tryd.params8] at hA hval
  obtain ⟨v0, vs0, d0, ds0, p0, q0, hargs, rfl, rfl, h0, r0⟩ := trodAll_cons hA
  obtain ⟨v1, vs1, d1, ds1, p1, q1, rfl, rfl, rfl, h1, r1⟩ := trodAll_cons r0
  obtain ⟨rfl, rfl, rfl⟩ := trodAll_nil r1
  obtain rfl : args = #[v0, v1] := by cases args; simp_all
  obtain ⟨rfl, rfl⟩ := trodVars_none hV
  obtain ⟨cl0, cs0, yl0, ys0, m0, rfl, rfl, rfl, hyl0, hys0⟩ := open_agg2 Tryd.underlying23 (by kernel_rfl) cells23 (hval 0 23 v0 rfl rfl) h0
  obtain ⟨l, el0, rfl, wl⟩ := DataW.trod_int Tryd.underlying3 hyl0
  obtain ⟨s, es0, rfl, ws⟩ := DataW.trod_int Tryd.underlying3 hys0
  simp at el0 es0
  subst el0 es0
  obtain ⟨a1, rfl, rfl, rfl, w1⟩ := open_int Tryd.underlying3 (hval 1 3 v1 rfl rfl) h1
  clear hA0 hval0
  simp only [List.append_nil] at hW'
  refine (walk l s a1 w1 W (laid_of hL)).mono fun e W' ⟨he, hg⟩ => ?_
  subst he
  exact ⟨_, rfl, post_of_below (pa := []) (pv := []) hW' (fun _ _ _ => (trodAll_cons_mk (shut_bool Tryd.underlying4 _) trodAll_mk0)) (fun sp _ => (trodAll_cons_mk (shut_agg2 (y0 := (.lit (.int .i64 l), [])) (y1 := (.lit (.int .i64 s), [])) Tryd.underlying23 (by kernel_rfl) cells23 ⟨1, by simp [DataW.trod, Tryd.underlying3, wl]⟩ ⟨1, by simp [DataW.trod, Tryd.underlying3, ws]⟩) (trodAll_cons_mk (shut_int Tryd.underlying3 w1) trodAll_mk0))) (fun _ _ => rfl) rfl
    hg (ok_one (by kernel_rfl) rfl (okWide_bool_mk Tryd.underlying4 _))⟩

theorem over : Rows.ledgerKindsRow.holds Tryd.pinned (OpenSpec.ofChange Rows.ledgerKindsSpec) :=
  OpenClaim.holds_of_wide 8 Tryd.f8 rfl rfl rfl rfl rfl rfl rfl ⟨rfl, rfl, rfl, rfl, rfl⟩ rfl rfl rfl rfl rfl (by kernel_rfl) Tryd.func8 (by kernel_rfl)
    (of_decide_eq_true (by kernel_rfl)) (by unfold Func.isWrapper; rw [if_neg (of_decide_eq_false (by kernel_rfl))]; exact ⟨rfl, rfl⟩)
    (fun os started H enc _ => lifted os started H enc)

theorem proved : Rows.LedgerKindsCardSaid :=
  Claim7.holds_tied_plain_at .later [] [.data] true (true, "04b04d59300e609cfa0da7a4310f26ef7014fdb096320e0925c723bf9f6d8783") false
    over (fun _ h => by cases h) (by kernel_rfl) (fun _ h => by cases h) ledgerKinds_row_tie rfl ⟨rfl, rfl⟩ (by kernel_rfl) rfl
    (fun f fn hf hfn => by
      obtain rfl : f = 8 := Option.some.inj ((show Tryd.prog.funcNamed "slotmesh/slotmeshlaw18.LedgerKinds" = some 8 by kernel_rfl).symm.trans hf) |>.symm
      obtain rfl : fn = Tryd.f8 := (Option.some.inj (Tryd.func8.symm.trans hfn)).symm
      exact ⟨by kernel_rfl, fun j t ht => by
        rw [Tryd.params8] at ht
        have h3 : t = 3 ∨ t = 23 := by
          rcases j with _ | j
          · have e : t = 23 := by simpa using ht.symm
            subst e; simp
          · rcases j with _ | j
            · have e : t = 3 := by simpa using ht.symm
              subst e; simp
            · simp at ht
        rcases h3 with rfl | rfl
        · exact (show Tryd.prog.wantsStandIn 3 = false by kernel_rfl)
        · exact (show Tryd.prog.wantsStandIn 23 = false by kernel_rfl)⟩)
    (by kernel_rfl)
#print axioms proved
end Go.Proofs.YthjaifdlnponcaaDoor.ledgerKinds
