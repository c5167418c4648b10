/- Appends while the mesh is built. -/
import Derived.Test.YtefnjhdmpnfacaaMeshBuild
namespace Go.Proofs.Ytefnjhdmpnfacaa
open Go.RowKit
set_option linter.unusedVariables false

theorem info43 : (Try.prog.info? 43).map (fun i => (i.zero, i.size, i.bytes)) = some (some (.agg #[.int .i64 0, .int .i64 0, .int .i64 0, .int .i64 0, .int .i64 0]), 5, 40) := by kernel_rfl
theorem info65 : (Try.prog.info? 65).map (fun i => (i.zero, i.size, i.bytes)) = some (some (.slice none 0 0), 1, 24) := by kernel_rfl
theorem info37 : (Try.prog.info? 37).map (fun i => (i.zero, i.size, i.bytes)) = some (some (.slice none 0 0), 1, 24) := by kernel_rfl

/-- Append of one element. -/
theorem step_push {w : World} {o : Oper} {a : Act} {K : Act → World → Prop} {Q : Exit → Act → World → Prop} (s x : Operand) (t e : TypeId) (sz bt : Nat) (z : Value)
    (ho : o.op = .call { callee := .builtin .append, args := #[s, x], argTypes := #[t, t] }) (hu : Try.prog.underlying t = some (.slice e)) (hinf : (Try.prog.info? e).map (fun i => (i.zero, i.size, i.bytes)) = some (some z, sz, bt))
    (hzs : z.cells.size = sz) (hsz : 0 < sz) (hbt : bt ≤ 100)
    (B : Nat) (v : Value) (n : Nat) (xs news : List Value) (hs : a.eval s = v) (hown : w.ownsRow B e sz v n xs) (g c : Nat) (hx : a.eval x = .slice (some ⟨g, 0, none⟩) 1 c)
    (hl : news.length = sz) (hat : ∀ (j : Nat) u, news[j]? = some u → w.cell? ⟨g, j, none⟩ = some u) (h1 : ∀ u ∈ news, u.oneCell' = true)
    (h63 : n ≤ 1000000) (hB : B ≤ w.heap.size) (h : ∀ v' w', Grew B e sz v w w' v' (n + 1) (xs ++ news) → K (a.put o.dst v') w') :
    Oper.wp Try.prog o a w K Q := by
  obtain ⟨i0, hi0, hz0, hz1, hz2⟩ := info_parts hinf
  have hnews : ∀ (j : Nat) (u : Value), news[j]? = some u → w.cell? ((⟨g, 0, none⟩ : Addr).add j) = some u := by
    intro j u hu
    have := hat j u hu
    rwa [show ((⟨g, 0, none⟩ : Addr).add j) = ⟨g, j, none⟩ by unfold Addr.add; split <;> simp_all]
  obtain ⟨v', w', hr, h2, h3, h4, h5⟩ := run_append_own_at (P := Try.prog) w B t o.type e i0 _ sz bt hu hi0 hz0 hz1 hz2 hzs hsz v n xs hown ⟨g, 0, none⟩ 1 c news
    (by rw [hl]; omega) hnews h1 (by unfold maxLen; omega) (by
      have : (n + 1) * bt ≤ (1000000 + 1) * 100 := Nat.mul_le_mul (by omega) hbt
      omega) hB
  unfold Oper.wp execOp
  simp only [ho, resolve, invoke, builtin, Sem.run_bind, Sem.run_pure, Result.andThen_ok, List.map_toArray, List.map_cons, List.map_nil, hs, hx, hr]
  exact h v' w' ⟨h2, h3, h5⟩

theorem whole_at {w : World} {g : Nat} {t : TypeId} {cs : Array Value} (h : Whole w g t cs) : ∀ (j : Nat) u, cs.toList[j]? = some u → w.cell? ⟨g, j, none⟩ = some u := fun j u hu => by
  rw [h.cell j]
  simpa using hu

section
variable {w w0 wA : World} {B mb a b c : Nat} {vR vT vH : Value} {tv : Nat → Value} {lab : Nat → Nat}

theorem far_low {row : Value} {e : TypeId} {sz n j : Nat} {xs : List Value} {v : Value} (hr : w.ownsRow B e sz row n xs) (hB : B ≤ w.heap.size) (hm : B ≤ mb) (hf : Far (fun k => some k = row.ownBlock) w wA) : Below B w (wA.setCell ⟨mb, j, none⟩ v) :=
  (hf.to_below hB (fun k e => (hr.lt k e.symm).1)).setCell (p := ⟨mb, j, none⟩) hm v

theorem Bld.grew_routes (h : Bld w B mb a b c vR vT vH tv lab) (hB : B ≤ w.heap.size) (hf : Far (fun _ => False) w w0) {v : Value} (hG : Grew B 43 5 vR w0 wA v (a + 1) (rteRow a ++ (startSt.rs a).cells.toList)) :
    BldX (wA.setCell ⟨mb, 0, none⟩ v) B mb (a + 1) b c ∧ Far (fun k => some k = vR.ownBlock) w wA ∧ Below B w (wA.setCell ⟨mb, 0, none⟩ v) := by
  have hF : Far (fun k => some k = vR.ownBlock) w wA := (hf.mono (fun _ e => e.elim)).grown hG.grew (fun k e => .inl e.symm)
  refine ⟨(h.keep hf).routes ((Far.refl _ _).grown hG.grew (fun k e => .inl e.symm)) (by rw [rteRow_succ]; exact hG.own) (fun g hg => ?_), hF, far_low h.rr hB h.lo hF⟩
  rcases hG.at_ with e | e
  · exact .inl (e ▸ hg)
  · rw [e] at hg; cases hg; exact .inr (Nat.le_refl _)

theorem Bld.grew_heard (h : Bld w B mb a b c vR vT vH tv lab) (hB : B ≤ w.heap.size) (hf : Far (fun _ => False) w w0) {v : Value} (hG : Grew B 37 1 vH w0 wA v (c + 1) (List.replicate c (.slice none 0 0) ++ [.slice none 0 0])) :
    BldX (wA.setCell ⟨mb, 2, none⟩ v) B mb a b (c + 1) ∧ Far (fun k => some k = vH.ownBlock) w wA ∧ Below B w (wA.setCell ⟨mb, 2, none⟩ v) := by
  have hF : Far (fun k => some k = vH.ownBlock) w wA := (hf.mono (fun _ e => e.elim)).grown hG.grew (fun k e => .inl e.symm)
  refine ⟨(h.keep hf).heard ((Far.refl _ _).grown hG.grew (fun k e => .inl e.symm)) (by rw [List.replicate_succ']; exact hG.own) (fun g hg => ?_), hF, far_low h.hh hB h.lo hF⟩
  rcases hG.at_ with e | e
  · exact .inl (e ▸ hg)
  · rw [e] at hg; cases hg; exact .inr (Nat.le_refl _)

theorem Bld.grew_told (h : Bld w B mb a b c vR vT vH tv lab) (hB : B ≤ w.heap.size) (hf : Far (fun _ => False) w w0) {v : Value} {x cx : Nat} (hx : w.heap.size ≤ x) (hx2 : x < w0.heap.size)
    (hu : w0.ownsRow B 41 2 (.slice (some ⟨x, 0, none⟩) 1 cx) 1 (dstCells [(startSt.rs b).own]))
    (hG : Grew B 65 1 vT w0 wA v (b + 1) ((List.range b).map tv ++ [.slice (some ⟨x, 0, none⟩) 1 cx])) :
    BldX (wA.setCell ⟨mb, 1, none⟩ v) B mb a (b + 1) c ∧ Far (fun k => some k = vT.ownBlock) w wA ∧ Below B w (wA.setCell ⟨mb, 1, none⟩ v) := by
  have hF : Far (fun k => some k = vT.ownBlock) w wA := (hf.mono (fun _ e => e.elim)).grown hG.grew (fun k e => .inl e.symm)
  refine ⟨h.told hF hx (ownsRow_same hu (fun g hg hl => ?_)) hG.own (fun g hg => ?_), hF, far_low h.tt hB h.lo hF⟩
  · refine hG.grew.block g hl (fun e => ?_)
    simp [Value.ownBlock] at hg
    have := (h.tt.lt g e.symm).2
    omega
  · rcases hG.at_ with e | e
    · exact .inl (e ▸ hg)
    · rw [e] at hg; cases hg
      have := hf.size
      exact .inr ⟨this, by omega⟩
end

theorem own_new (w : World) {B : Nat} (hB : B ≤ w.heap.size) (s r : Int) : (w.alloc (.cells #[.int .i64 s, .int .i64 r] 41)).ownsRow B 41 2 (.slice (some ⟨w.heap.size, 0, none⟩) 1 1) 1 (dstCells [⟨s, r⟩]) :=
  ⟨rfl, .inr ⟨w.heap.size, 1, _, rfl, hB, heap_alloc_new w _, Nat.le_refl _, by unfold maxLen; omega, rfl, rfl⟩⟩

theorem bld_start (w : World) : BldX (w.alloc (.cells #[.slice none 0 0, .slice none 0 0, .slice none 0 0] 36)) w.heap.size w.heap.size 0 0 0 := by
  have h := Whole.new w 36 #[.slice none 0 0, .slice none 0 0, .slice none 0 0]
  exact ⟨_, _, _, fun _ => .slice none 0 0, fun k => 0, ⟨h.cell 0, h.frozen 0⟩, ⟨h.cell 1, h.frozen 1⟩, ⟨h.cell 2, h.frozen 2⟩, World.ownsRow_nil _ _ _ _, World.ownsRow_nil _ _ _ _, World.ownsRow_nil _ _ _ _,
    (fun i hi => by omega), rfl, (fun g hg => by cases hg), (fun g hg => by cases hg), (fun g hg => by cases hg), (fun i hi => by omega), Nat.le_refl _⟩

/-- What start leaves. -/
def Started (w : World) (n : Nat) (e : Ending) (w' : World) : Prop := ∃ mb R T H cR cT cH, e = .returned (.pointer (some ⟨mb, 0, none⟩)) ∧ MeshX w' w.heap.size mb R T H cR cT cH n (fun _ => False) startSt ∧ Below w.heap.size w w'

end Go.Proofs.Ytefnjhdmpnfacaa
