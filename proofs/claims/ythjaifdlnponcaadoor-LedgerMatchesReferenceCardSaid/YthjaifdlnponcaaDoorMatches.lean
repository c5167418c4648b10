/- For any ledger and numbers Spend, Cost and Lasts return what the reference returns. No conditions beyond the table's content, which is tied to the program's text. -/
import Derived.Test.YthjaifdlnponcaaDoorFrame
import Derived.OpenShut
import Derived.ShutString
import Derived.Test.YthjaifdlnponcaaDoorCards
import Derived.Test.YthjaifdlnponcaaDoorTie
import Derived.SevenTiedAt
namespace Go.Proofs.YthjaifdlnponcaaDoor.ledgerMatchesReference
open Go.ChangeShapes Go.WideShapes Go.ChangeAt Go.RowKit Go.Joins Go.BigFrame
set_option linter.unusedVariables false



theorem walk (l s : Int) (a1 : Int) (w1 : (Lit.int .i64 a1).wf = true) (a2 : Int) (w2 : (Lit.int .i64 a2).wf = true) (w : World) (hL : Laid w) :
    Calls Tryd.prog 3 #[.agg #[.int .i64 l, .int .i64 s], .int .i64 a1, .int .i64 a2] w fun e w' => e = .returned (.bool true) ∧ Below w.heap.size w w' := by
  have K := Kept.new (l := l) (s := s) hL
  clear hL
  obtain ⟨l', s', r, hS⟩ : ∃ l' s' r, (l', s', r) = spendF l s a1 := ⟨_, _, _, rfl⟩
  obtain ⟨c, hc⟩ : ∃ c, c = costF a2 := ⟨_, rfl⟩
  obtain ⟨n, hn⟩ : ∃ n, n = lastsF l s a2 := ⟨_, rfl⟩
  have HS := Lib.hid hS
  have HC := Lib.hid hc
  have HN := Lib.hid hn
  clear hS hc hn
  go_enter Tryd.func3, Tryd.ntmps3
  go_wp2_with fail
  (with_reducible refine (head_kept K).mono ?_)
  rintro e w1 ⟨rfl, K1⟩
  clear K
  have c0 := K1.c0
  have c1 := K1.c1
  go_wp2_with fail
  (with_reducible refine (spend_kept a1 l' s' r l s K1 HS.out).mono ?_)
  rintro e w2 ⟨rfl, K2⟩
  clear c0 c1 K1
  have c0 := K2.c0
  have c1 := K2.c1
  have lt0 := K2.lt
  have K3 := K2.alloc (.cells #[.int .i64 l', .int .i64 s'] 23)
  go_wp2_with fail
  (with_reducible refine (rspend_is l s a1 l' s' r _ HS.out).mono ?_)
  rintro e w3 ⟨rfl, hb⟩
  have K4 := K3.below hb
  have a0 : w3.cell? ⟨w2.heap.size, 0, none⟩ = some (.int .i64 l') := (hb.cell (p := ⟨w2.heap.size, 0, none⟩) (by simp)).trans (by simp)
  have a1' : w3.cell? ⟨w2.heap.size, 1, none⟩ = some (.int .i64 s') := (hb.cell (p := ⟨w2.heap.size, 1, none⟩) (by simp)).trans (by simp)
  have lt3 : w2.heap.size < w3.heap.size := by have := hb.size; simp at this; omega
  clear c0 c1 K2 K3 lt0 hb
  have K5 := K4.alloc (.cells #[.int .i64 l', .int .i64 s'] 23)
  go_wp2_with fail
  have x0 : ∀ u, (ext (w3.alloc (.cells #[.int .i64 l', .int .i64 s'] 23)) u).cell? ⟨w.heap.size, 0, none⟩ = some (.int .i64 l) := fun u => (ext_cell _ u K5.lt).trans K5.c0
  have x1 : ∀ u, (ext (w3.alloc (.cells #[.int .i64 l', .int .i64 s'] 23)) u).cell? ⟨w.heap.size, 1, none⟩ = some (.int .i64 s) := fun u => (ext_cell _ u K5.lt).trans K5.c1
  have x2 : ∀ u, (ext (w3.alloc (.cells #[.int .i64 l', .int .i64 s'] 23)) u).cell? ⟨w2.heap.size, 0, none⟩ = some (.int .i64 l') := fun u => (ext_cell _ u (by simp; omega)).trans ((World.cell?_alloc_lt _ _ _ lt3).trans a0)
  have x3 : ∀ u, (ext (w3.alloc (.cells #[.int .i64 l', .int .i64 s'] 23)) u).cell? ⟨w2.heap.size, 1, none⟩ = some (.int .i64 s') := fun u => (ext_cell _ u (by simp; omega)).trans ((World.cell?_alloc_lt _ _ _ lt3).trans a1')
  have x4 : ∀ u, (ext (w3.alloc (.cells #[.int .i64 l', .int .i64 s'] 23)) u).cell? ⟨w3.heap.size, 0, none⟩ = some (.int .i64 l') := fun u => (ext_cell _ u (by simp)).trans (by simp)
  have x5 : ∀ u, (ext (w3.alloc (.cells #[.int .i64 l', .int .i64 s'] 23)) u).cell? ⟨w3.heap.size, 1, none⟩ = some (.int .i64 s') := fun u => (ext_cell _ u (by simp)).trans (by simp)
  clear a0 a1'
  refine wp_region_ext (by kernel_rfl) (by kernel_rfl) ?_
  repeat (go_big_quiet_step ((first
    | (go_at_call 12; with_reducible exact calls_ext_same (cost_is a2 c _ (K5.laid.below (ext_below _ _)) HC.out))
    | (go_at_call 13; with_reducible exact calls_ext_same (rcost_is a2 c _ HC.out))
    | (go_at_call 14; with_reducible exact calls_ext (lasts_is l s a2 n _ (K5.laid.below (ext_below _ _)) HN.out))
    | (go_at_call 15; with_reducible exact calls_ext (rlasts_is l s a2 n _ HN.out)))))
  refine wpQuiet_nil ?_
  rintro _ ⟨u, rfl⟩
  go_wp2
  go_ret
  exact ⟨rfl, below_next (ext_below _ _) K5.acc K5.acc.size⟩

theorem laidWorld_row (os : Os) : ((laidWorld os).forCall (fun _ _ => 0) ⟨#[], #[.agg #[.int .i64 0, .int .i64 0], .int .i64 0, .int .i64 0], []⟩).memory.heap[0]? = some (.cells costCells 38 (0, 0)) := by kernel_rfl

set_option maxRecDepth 100000 in
theorem lifted (os : Os) (started : os.Started) (H : Type) (enc : TypeId × Value → H) :
    ReturnsInHanded {} Tryd.checked os 3 .any (fun w args => (Rows.ledgerMatchesReferenceSpec.pre enc Tryd.prog Tryd.f3 [] false w args ∧ laidMet Tryd.prog [("slotmesh/ledger.costs", Rows.laid_slotmesh_ledger_costs)] w) ∧ sizedMet enc Tryd.prog Tryd.f3 (OpenSpec.ofChange Rows.ledgerMatchesReferenceSpec) false w args)
      (Rows.ledgerMatchesReferenceSpec.post enc Tryd.prog Tryd.f3 false true false false) := by
  refine returnsInHanded_of_change_and (C := Tryd.checked) (X := fun w _ => laidMet Tryd.prog [("slotmesh/ledger.costs", Rows.laid_slotmesh_ledger_costs)] w) (fun _ _ _ hh h => h.of_heap hh) own started (by kernel_rfl) Tryd.func3
    (ChangeSpec.witness_at (enc := enc) (C := Tryd.checked) (os := os) (X := fun w _ => laidMet Tryd.prog [("slotmesh/ledger.costs", Rows.laid_slotmesh_ledger_costs)] w) false (laidWorld os) #[.agg #[.int .i64 0, .int .i64 0], .int .i64 0, .int .i64 0] 8 rfl (by kernel_rfl) (by kernel_rfl) (by kernel_rfl) (by kernel_rfl) (by kernel_rfl)
      ⟨_, ⟨0, 38, costCells, 8, [], [], by kernel_rfl, by kernel_rfl, by kernel_rfl, by kernel_rfl, rfl, rfl⟩, by decide, fun b off h => by
        have h' : MemPlace.cell b off ∈ [MemPlace.cell 0 0, .cell 0 1, .cell 0 2] := h
        have hb : b = 0 := by
          simp at h'
          omega
        subst hb
        refine ⟨⟨_, _, laidWorld_row os⟩, fun u v hc => ?_⟩
        simp only [World.cell?, laidWorld_row os] at hc
        simp at h'
        rcases h' with rfl | rfl | rfl <;> simp [costCells] at hc⟩) ?_
  intro W base args ds gs before hval0 hW _ _ hL _
  have hval : ∀ (j : Nat) t v, Tryd.f3.params[j]? = some t → args[j]? = some v → Value.okWide Tryd.prog W .any base t v := hval0
  have hW' := hW
  obtain ⟨p, q, hA0, hV, rfl, hfz, hnd⟩ := hW
  have hA : DataW.TrodAll enc Tryd.prog W 0 (fun _ => true) true Tryd.f3.params.toList args.toList ds p := hA0
  rw [Tryd.params3] at hA hval
  obtain ⟨v0, vs0, d0, ds0, p0, q0, hargs, rfl, rfl, h0, r0⟩ := trodAll_cons hA
  obtain ⟨v1, vs1, d1, ds1, p1, q1, rfl, rfl, rfl, h1, r1⟩ := trodAll_cons r0
  obtain ⟨v2, vs2, d2, ds2, p2, q2, rfl, rfl, rfl, h2, r2⟩ := trodAll_cons r1
  obtain ⟨rfl, rfl, rfl⟩ := trodAll_nil r2
  obtain rfl : args = #[v0, v1, v2] := by cases args; simp_all
  obtain ⟨rfl, rfl⟩ := trodVars_none hV
  obtain ⟨cl0, cs0, yl0, ys0, m0, rfl, rfl, rfl, hyl0, hys0⟩ := open_agg2 Tryd.underlying23 (by kernel_rfl) cells23 (hval 0 23 v0 rfl rfl) h0
  obtain ⟨l, el0, rfl, wl⟩ := DataW.trod_int Tryd.underlying3 hyl0
  obtain ⟨s, es0, rfl, ws⟩ := DataW.trod_int Tryd.underlying3 hys0
  simp at el0 es0
  subst el0 es0
  obtain ⟨a1, rfl, rfl, rfl, w1⟩ := open_int Tryd.underlying3 (hval 1 3 v1 rfl rfl) h1
  obtain ⟨a2, rfl, rfl, rfl, w2⟩ := open_int Tryd.underlying3 (hval 2 3 v2 rfl rfl) h2
  clear hA0 hval0
  simp only [List.append_nil] at hW'
  refine (walk l s a1 w1 a2 w2 W (laid_of hL)).mono fun e W' ⟨he, hg⟩ => ?_
  subst he
  exact ⟨_, rfl, post_of_below (pa := []) (pv := []) hW' (fun _ _ _ => (trodAll_cons_mk (shut_bool Tryd.underlying4 _) trodAll_mk0)) (fun sp _ => (trodAll_cons_mk (shut_agg2 (y0 := (.lit (.int .i64 l), [])) (y1 := (.lit (.int .i64 s), [])) Tryd.underlying23 (by kernel_rfl) cells23 ⟨1, by simp [DataW.trod, Tryd.underlying3, wl]⟩ ⟨1, by simp [DataW.trod, Tryd.underlying3, ws]⟩) (trodAll_cons_mk (shut_int Tryd.underlying3 w1) (trodAll_cons_mk (shut_int Tryd.underlying3 w2) trodAll_mk0)))) (fun _ _ => rfl) rfl
    hg (ok_one (by kernel_rfl) rfl (okWide_bool_mk Tryd.underlying4 _))⟩

theorem over : Rows.ledgerMatchesReferenceRow.holds Tryd.pinned (OpenSpec.ofChange Rows.ledgerMatchesReferenceSpec) :=
  OpenClaim.holds_of_wide 3 Tryd.f3 rfl rfl rfl rfl rfl rfl rfl ⟨rfl, rfl, rfl, rfl, rfl⟩ rfl rfl rfl rfl rfl (by kernel_rfl) Tryd.func3 (by kernel_rfl)
    (of_decide_eq_true (by kernel_rfl)) (by unfold Func.isWrapper; rw [if_neg (of_decide_eq_false (by kernel_rfl))]; exact ⟨rfl, rfl⟩)
    (fun os started H enc _ => lifted os started H enc)

theorem proved : Rows.LedgerMatchesReferenceCardSaid :=
  Claim7.holds_tied_plain_at .later [] [.data] true (true, "04b04d59300e609cfa0da7a4310f26ef7014fdb096320e0925c723bf9f6d8783") false
    over (fun _ h => by cases h) (by kernel_rfl) (fun _ h => by cases h) ledgerMatchesReference_row_tie rfl ⟨rfl, rfl⟩ (by kernel_rfl) rfl
    (fun f fn hf hfn => by
      obtain rfl : f = 3 := Option.some.inj ((show Tryd.prog.funcNamed "slotmesh/slotmeshlaw18.LedgerMatchesReference" = some 3 by kernel_rfl).symm.trans hf) |>.symm
      obtain rfl : fn = Tryd.f3 := (Option.some.inj (Tryd.func3.symm.trans hfn)).symm
      exact ⟨by kernel_rfl, fun j t ht => by
        rw [Tryd.params3] at ht
        have h3 : t = 3 ∨ t = 23 := by
          rcases j with _ | j
          · have e : t = 23 := by simpa using ht.symm
            subst e; simp
          · rcases j with _ | j
            · have e : t = 3 := by simpa using ht.symm
              subst e; simp
            · rcases j with _ | j
              · have e : t = 3 := by simpa using ht.symm
                subst e; simp
              · simp at ht
        rcases h3 with rfl | rfl
        · exact (show Tryd.prog.wantsStandIn 3 = false by kernel_rfl)
        · exact (show Tryd.prog.wantsStandIn 23 = false by kernel_rfl)⟩)
    (by kernel_rfl)
#print axioms proved
end Go.Proofs.YthjaifdlnponcaaDoor.ledgerMatchesReference
