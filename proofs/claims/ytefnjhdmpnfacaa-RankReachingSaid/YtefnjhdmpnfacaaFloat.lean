/- A region that draws its order and whose last operation waits for all others: one walk in the order of the text, its reads first, then its writes; the condition under which the reads stand need not outlast the last write. -/
import Derived.Test.YtefnjhdmpnfacaaBase
import Derived.OrdersHeld
import Derived.StillTail
namespace Go.Proofs.Ytefnjhdmpnfacaa
open Go.RowKit

section
variable {P : Program} {l : List Oper} {x : Oper} {Q : Exit → Act → World → Prop} {md : Region.Mode}

/-- The post ahead of the last operation. -/
def lastPost (P : Program) (x : Oper) (Q : Exit → Act → World → Prop) : Exit → Act → World → Prop
  | .normal, a, w => x.wp P a w (fun a' w' => Q .normal a' w') Q
  | e, a, w => Q e a w

theorem wp_toLast {o : Oper} {a : Act} {w : World} {K : Act → World → Prop} (h : o.wp P a w K Q) : o.wp P a w K (lastPost P x Q) := by
  unfold Oper.wp at *
  generalize (execOp a.eval o).run P w = r at *
  cases r with
  | ok n w' =>
    cases n <;> simp only [Oper.upon] at h ⊢ <;>
      first
        | exact h
        | exact Calls.mono h (fun e w'' he => by cases e <;> exact he)
  | halt y w' => cases y <;> simp only [Oper.upon] at h ⊢ <;> exact h

theorem wp_lastPost {o : Oper} {a : Act} {w : World} {K : Act → World → Prop} (h : o.wp P a w K (lastPost P x Q)) : o.wp P a w K Q := by
  unfold Oper.wp at *
  generalize (execOp a.eval o).run P w = r at *
  cases r with
  | ok n w' =>
    cases n <;> simp only [Oper.upon] at h ⊢ <;>
      first
        | exact h
        | exact Calls.mono h (fun e w'' he => by cases e <;> exact he)
  | halt y w' => cases y <;> simp only [Oper.upon] at h ⊢ <;> exact h

/-- What is asked of the operations: none is guarded, each waits for earlier ones only, the last waits for all. -/
def lastB (md : Region.Mode) (l : List Oper) (x : Oper) : Bool :=
  x.guard.isNone && l.all (fun o => o.guard.isNone) && (List.range l.length).all (fun j => (x.after.any fun e => Region.binds md e && e.on == j) || (List.range l.length).any (fun i => decide (j < i) && match l[i]? with | some o => o.after.any (fun e => Region.binds md e && e.on == j) | none => false)) &&
    (List.range l.length).all (fun j => match l[j]? with | some o => o.after.all fun e => !Region.binds md e || decide (e.on < j) | none => true) &&
    x.after.all (fun e => !Region.binds md e || decide (e.on < l.length))

structure LastOk (md : Region.Mode) (l : List Oper) (x : Oper) : Prop where
  gx : x.guard = none
  gl : ∀ o ∈ l, o.guard = none
  all : ∀ j, j < l.length → (∃ e ∈ x.after, Region.binds md e = true ∧ e.on = j) ∨ ∃ i o, j < i ∧ l[i]? = some o ∧ ∃ e ∈ o.after, Region.binds md e = true ∧ e.on = j
  early : ∀ j o, l[j]? = some o → ∀ e ∈ o.after, Region.binds md e = true → e.on < j
  inl : ∀ e ∈ x.after, Region.binds md e = true → e.on < l.length

theorem lastB_ok (h : lastB md l x = true) : LastOk md l x := by
  simp only [lastB, Bool.and_eq_true, List.all_eq_true, List.mem_range, Option.isNone_iff_eq_none, Array.any_eq_true', beq_iff_eq, Array.all_eq_true_iff_forall_mem, Bool.or_eq_true, Bool.not_eq_true', decide_eq_true_eq] at h
  obtain ⟨⟨⟨⟨h1, h2⟩, h3⟩, h4⟩, h5⟩ := h
  refine ⟨h1, h2, fun j hj => ?_, fun j o ho e he hb => ?_, fun e he hb => ?_⟩
  · rcases h3 j hj with ⟨e, he, hb⟩ | h3
    · exact .inl ⟨e, he, hb⟩
    · simp only [List.any_eq_true, List.mem_range, Bool.and_eq_true, decide_eq_true_eq] at h3
      obtain ⟨i, hi, hji, hm⟩ := h3
      cases ho : l[i]? with
      | none => rw [ho] at hm; cases hm
      | some o =>
        rw [ho] at hm
        simp only [Array.any_eq_true', Bool.and_eq_true, beq_iff_eq] at hm
        obtain ⟨e, he, hb⟩ := hm
        exact .inr ⟨i, o, hji, ho, e, he, hb⟩
  · have hj := (List.getElem?_eq_some_iff.1 ho).1
    have k := h4 j hj
    rw [ho] at k
    simp only [Array.all_eq_true_iff_forall_mem, Bool.or_eq_true, Bool.not_eq_true', decide_eq_true_eq] at k
    rcases k e he with k | k
    · rw [hb] at k; cases k
    · exact k
  · rcases h5 e he with k | k
    · rw [hb] at k; cases k
    · exact k

theorem wanted_none {o : Oper} (h : o.guard = none) (f : Nat → Option Bool) : Region.wanted o f = true := by simp [Region.wanted, h]

theorem push_getD {listed : Array Bool} {j : Nat} (d : Bool) (h : j < listed.size) : (listed.push false).getD j d = listed.getD j d := by
  simp [Array.getElem?_push, Nat.ne_of_lt h]
theorem push_last {listed : Array Bool} (d : Bool) : (listed.push false).getD listed.size d = false := by simp
theorem getD_any {listed : Array Bool} {j : Nat} (h : j < listed.size) (d d' : Bool) : listed.getD j d = listed.getD j d' := by simp [h]
theorem app_old {j : Nat} (h : j < l.length) : (l ++ [x]).toArray[j]? = l[j]? := by
  rw [List.getElem?_toArray, List.getElem?_append_left h]
theorem app_last : (l ++ [x]).toArray[l.length]? = some x := by simp

theorem ready_old (ok : LastOk md l x) {listed : Array Bool} (hs : listed.size = l.length) {j : Nat} (hj : j < l.length) :
    j ∈ Region.ready md (l ++ [x]).toArray (listed.push false) ↔ j ∈ Region.ready md l.toArray listed := by
  rw [mem_ready, mem_ready, push_getD _ (by omega), app_old hj, List.getElem?_toArray]
  refine and_congr_right fun _ => exists_congr fun o => and_congr_right fun ho => forall_congr' fun e => forall_congr' fun he => forall_congr' fun hb => ?_
  rw [push_getD _ (by have := ok.early j o ho e he hb; omega)]

theorem all_listed (ok : LastOk md l x) {listed : Array Bool} (hs : listed.size = l.length) (h : Region.ready md l.toArray listed = []) : ∀ j, j < l.length → listed.getD j false = true := by
  intro j
  induction j using Nat.strongRecOn with
  | ind j ih =>
    intro hj
    cases hv : listed.getD j false with
    | true => rfl
    | false =>
      have : j ∈ Region.ready md l.toArray listed := by
        rw [mem_ready]
        refine ⟨by rw [getD_any (by omega) true false]; exact hv, l[j], by rw [List.getElem?_toArray]; exact List.getElem?_eq_getElem hj, fun e he hb => ?_⟩
        have := ok.early j _ (List.getElem?_eq_getElem hj) e he hb
        exact ih e.on this (by omega)
      rw [h] at this
      cases this

theorem last_ready (ok : LastOk md l x) {listed : Array Bool} (hs : listed.size = l.length) (h : ∀ j, j < l.length → listed.getD j false = true) : l.length ∈ Region.ready md (l ++ [x]).toArray (listed.push false) := by
  rw [mem_ready, ← hs]
  refine ⟨push_last _, x, by rw [hs]; exact app_last, fun e he hb => ?_⟩
  have := ok.inl e he hb
  rw [push_getD _ (by omega)]
  exact h _ this

/-- Whatever has come up, so has all that it waits for. -/
def Closed (md : Region.Mode) (l : List Oper) (listed : Array Bool) : Prop := ∀ j o, l[j]? = some o → listed.getD j false = true → ∀ e ∈ o.after, Region.binds md e = true → listed.getD e.on false = true

theorem Closed.set {listed : Array Bool} (hc : Closed md l listed) {i : Nat} (hi : i ∈ Region.ready md l.toArray listed) : Closed md l (listed.setIfInBounds i true) := by
  intro j o ho hj e he hb
  rw [mem_ready] at hi
  obtain ⟨_, o', ho', hall⟩ := hi
  by_cases h : i = j
  · subst h
    rw [List.getElem?_toArray] at ho'
    rw [ho] at ho'
    cases ho'
    exact getD_set_true (hall e he hb)
  · rw [getD_set_ne _ h] at hj
    exact getD_set_true (hc j o ho hj e he hb)

theorem last_all (ok : LastOk md l x) {listed : Array Bool} (hs : listed.size = l.length) (hc : Closed md l listed) (h : l.length ∈ Region.ready md (l ++ [x]).toArray (listed.push false)) : Region.ready md l.toArray listed = [] := by
  rw [mem_ready] at h
  obtain ⟨_, o, ho, hall⟩ := h
  rw [app_last] at ho
  cases ho
  have key : ∀ d j, j + d = l.length → j < l.length → listed.getD j false = true := by
    intro d
    induction d using Nat.strongRecOn with
    | ind d ih =>
      intro j hd hjl
      rcases ok.all j hjl with ⟨e, he, hb, hon⟩ | ⟨i, o, hji, ho, e, he, hb, hon⟩
      · have h2 := hall e he hb
        rwa [hon, push_getD _ (by omega)] at h2
      · have hil := (List.getElem?_eq_some_iff.1 ho).1
        have hi := ih (l.length - i) (by omega) i (by omega) hil
        have := hc i o ho hi e he hb
        rwa [hon] at this
  apply List.eq_nil_iff_forall_not_mem.2
  intro j hj
  rw [mem_ready] at hj
  obtain ⟨h1, o, ho, _⟩ := hj
  rw [List.getElem?_toArray] at ho
  have hjl := (List.getElem?_eq_some_iff.1 ho).1
  have h2 := key (l.length - j) j (by omega) hjl
  rw [getD_any (by omega) false true, h1] at h2
  cases h2

theorem none_left {listed : Array Bool} (hs : listed.size = l.length) (h : ∀ j, j < l.length → listed.getD j false = true) : Region.ready md (l ++ [x]).toArray ((listed.push false).setIfInBounds l.length true) = [] := by
  apply List.eq_nil_iff_forall_not_mem.2
  intro j hj
  rw [mem_ready] at hj
  obtain ⟨h1, o, ho, _⟩ := hj
  have hjl : j < l.length + 1 := by
    rw [List.getElem?_toArray] at ho
    have := (List.getElem?_eq_some_iff.1 ho).1
    simpa using this
  by_cases e : l.length = j
  · subst e
    rw [← hs] at h1
    simp at h1
  · rw [getD_set_ne _ e, push_getD _ (by omega), getD_any (by omega) true false, h j (by omega)] at h1
    cases h1

theorem wpOp_cut (ok : LastOk md l x) {i : Nat} (hi : i < l.length) {K K' : Act → World → Prop} {a : Act} {w : World} (h : wpOp P l.toArray (lastPost P x Q) i K a w) (hK : ∀ a w, K a w → K' a w) : wpOp P (l ++ [x]).toArray Q i K' a w := by
  have ho : l[i]? = some l[i] := List.getElem?_eq_getElem hi
  unfold wpOp at h ⊢
  rw [app_old hi]
  rw [List.getElem?_toArray] at h
  rw [ho] at h ⊢
  simp only at h ⊢
  rw [if_pos (wanted_none (ok.gl _ (List.getElem_mem hi)) _)] at h ⊢
  rcases h with h | ⟨h1, h2⟩
  · exact .inl (Oper.wp_mono hK (wp_lastPost h))
  · exact .inr ⟨h1, h2⟩

theorem wpOp_last (ok : LastOk md l x) {K : Act → World → Prop} {a : Act} {w : World} (h : x.wp P a w (fun a' w' => Q .normal a' w') Q) (hK : ∀ a w, Q .normal a w → K a w) : wpOp P (l ++ [x]).toArray Q l.length K a w := by
  unfold wpOp
  rw [app_last]
  simp only
  rw [if_pos (wanted_none ok.gx _)]
  exact .inl (Oper.wp_mono hK h)

/-- The last operation stands behind all others in whatever order. -/
theorem wpAny_trunc (ok : LastOk md l x) : ∀ (fuel : Nat) (listed : Array Bool) (a : Act) (w : World), listed.size = l.length → Closed md l listed →
    wpAny P md l.toArray (lastPost P x Q) fuel listed a w → wpAny P md (l ++ [x]).toArray Q (fuel + 1) (listed.push false) a w := by
  intro fuel
  induction fuel with
  | zero =>
    intro listed a w hs hc H
    have hall := all_listed ok hs H.1
    refine ⟨fun h => ?_, fun i hi => ?_⟩
    · have := last_ready ok hs hall
      rw [h] at this
      cases this
    · by_cases hil : i < l.length
      · rw [ready_old ok hs hil, H.1] at hi
        cases hi
      · obtain rfl : i = l.length := by
          rw [mem_ready] at hi
          obtain ⟨_, o, ho, _⟩ := hi
          rw [List.getElem?_toArray] at ho
          have := (List.getElem?_eq_some_iff.1 ho).1
          simp at this
          omega
        exact wpOp_last ok H.2 (fun a w h => ⟨none_left hs hall, h⟩)
  | succ fuel ih =>
    intro listed a w hs hc H
    refine ⟨fun h => ?_, fun i hi => ?_⟩
    · have h0 : Region.ready md l.toArray listed = [] := by
        apply List.eq_nil_iff_forall_not_mem.2
        intro j hj
        have hjl : j < l.length := by
          have hj' := hj
          rw [mem_ready] at hj'
          obtain ⟨_, o, ho, _⟩ := hj'
          rw [List.getElem?_toArray] at ho
          exact (List.getElem?_eq_some_iff.1 ho).1
        rw [← ready_old ok hs hjl, h] at hj
        cases hj
      have := last_ready ok hs (all_listed ok hs h0)
      rw [h] at this
      cases this
    · by_cases hil : i < l.length
      · rw [ready_old ok hs hil] at hi
        refine wpOp_cut ok hil (H.2 i hi) (fun a' w' hw => ?_)
        have := ih (listed.setIfInBounds i true) a' w' (by simpa using hs) (hc.set hi) hw
        rwa [show (listed.setIfInBounds i true).push false = (listed.push false).setIfInBounds i true by
          apply Array.toList_inj.1
          rw [Array.toList_push, Array.toList_setIfInBounds, Array.toList_setIfInBounds, Array.toList_push, List.set_append_left _ _ (by simpa using (by omega : i < listed.size))]] at this
      · obtain rfl : i = l.length := by
          rw [mem_ready] at hi
          obtain ⟨_, o, ho, _⟩ := hi
          rw [List.getElem?_toArray] at ho
          have := (List.getElem?_eq_some_iff.1 ho).1
          simp at this
          omega
        have h0 := last_all ok hs hc hi
        have hall := all_listed ok hs h0
        exact wpOp_last ok (H.1 h0) (fun a w h => ⟨fun _ => h, fun j hj => by rw [none_left hs hall] at hj; cases hj⟩)

/-- The reads, in the order of the text: each yields its value in every world that meets S. -/
def wpFloat (P : Program) (ops : Array Oper) (S : World → Prop) : List Oper → (Act → Prop) → Act → Prop
  | [], K, a => K a
  | o :: r, K, a => ∃ v, YieldsIf P ops S o v a ∧ wpFloat P ops S r K (a.put o.dst v)

/-- The writes, one behind the other; S holds behind each but the last. -/
def wpChain (P : Program) (Q : Exit → Act → World → Prop) (S : World → Prop) : List Oper → Act → World → Prop
  | [], a, w => Q .normal a w
  | [o], a, w => o.wp P a w (fun a' w' => Q .normal a' w') Q
  | o :: o' :: r, a, w => o.wp P a w (fun a' w' => S w' ∧ wpChain P Q S (o' :: r) a' w') Q

theorem held_of_float {ops : Array Oper} {S : World → Prop} {g : Nat} {w : World} (hsel : Region.noSelect ops = true) (hQ : ∀ c a d v w, Q (.panic c) (a.put d v) w → Q (.panic c) a w) (hS : S w) :
    ∀ (h : List Oper) (k : Nat) (listed : Array Bool) (a : Act) (K : Act → Prop), (∀ j, j < h.length → h[j]? = ops[k + j]?) → Region.lexHead md ops g h.length k listed = true →
      (∀ a' listed', Region.seqB md ops g (k + h.length) listed' = true → K a' → wpAnyH P md ops Q S g listed' a' w) → wpFloat P ops S h K a → wpAnyH P md ops Q S (g + h.length) listed a w
  | [], k, listed, a, K, _, hB, hK, h => hK a listed hB h
  | o :: r, k, listed, a, K, hl, hB, hK, ⟨v, hy, h⟩ => by
    have h0 : ops[k]? = some o := by simpa using (hl 0 (by simp)).symm
    simp only [List.length_cons, Region.lexHead, Bool.and_eq_true] at hB
    obtain ⟨⟨hr, hf⟩, hB'⟩ := hB
    refine wpAnyH_take h0 hsel hf hr (fun c a w hq => hQ c a _ _ w hq) hy hS ?_
    refine held_of_float hsel hQ hS r (k + 1) _ _ K (fun j hj => ?_) hB' (fun a' listed' hs => hK a' listed' ?_) h
    · have := hl (j + 1) (by simpa using hj)
      rw [List.getElem?_cons_succ] at this
      rw [this]
      congr 1
      omega
    · rw [List.length_cons]
      rwa [show k + (r.length + 1) = k + 1 + r.length by omega]

theorem held_of_chain {S : World → Prop} : ∀ (t : List Oper) (k : Nat) (listed : Array Bool) (a : Act) (w : World), (∀ j, t[j]? = l[k + j]?) → (∀ o ∈ t, o.guard = none) → Region.seqB md l.toArray t.length k listed = true →
      wpChain P Q S (t ++ [x]) a w → wpAnyH P md l.toArray (lastPost P x Q) S t.length listed a w
  | [], _, _, _, _, _, _, hB, h => ⟨by simpa [Region.seqB] using hB, h⟩
  | o :: t, k, listed, a, w, hl, hg, hB, h => by
    have h0 : l[k]? = some o := by simpa using (hl 0).symm
    simp only [List.length_cons, Region.seqB, Bool.and_eq_true, decide_eq_true_eq] at hB
    have h' : o.wp P a w (fun a' w' => S w' ∧ wpChain P Q S (t ++ [x]) a' w') Q := by
      cases t with
      | nil => exact h
      | cons o' t => exact h
    refine wpAnyH_all hB.1 (by simp) (fun i hi => ?_)
    rw [List.mem_singleton] at hi
    subst hi
    unfold wpOp
    rw [List.getElem?_toArray, h0]
    simp only
    rw [if_pos (wanted_none (hg o List.mem_cons_self) _)]
    refine .inl (Oper.wp_mono (fun a' w' hk => ⟨hk.1, held_of_chain t (i + 1) _ a' w' (fun j => ?_) (fun y hy => hg y (List.mem_cons_of_mem _ hy)) hB.2 hk.2⟩) (wp_toLast h'))
    have := hl (j + 1)
    rw [List.getElem?_cons_succ] at this
    rw [this]
    congr 1
    omega

/-- All that is asked of the region's text: N its operations but the last, n of which are reads. -/
def floatB (md : Region.Mode) (L : List Oper) (N n : Nat) : Bool :=
  decide (N + 1 = L.length) && decide (n ≤ N) && (match L[N]? with | some x => lastB md (L.take N) x | none => false) && Region.noSelect (L.take N).toArray &&
    Region.lexHead md (L.take N).toArray (N - n) n 0 (Array.replicate N false)

theorem wp_region_float {id : Nat} {a : Act} {w : World} {L : List Oper} (N n : Nat) (S : World → Prop) (hm : P.follows .mixedOrders = true) (hB : floatB .any L N n = true)
    (hQ : ∀ c a d v w, Q (.panic c) (a.put d v) w → Q (.panic c) a w) (hS : S w.drew) (h : wpFloat P (L.take N).toArray S (L.take n) (fun a' => wpChain P Q S (L.drop n) a' w.drew) a) : (Code.region id L.toArray true).wp P Q a w := by
  simp only [floatB, Bool.and_eq_true, decide_eq_true_eq] at hB
  obtain ⟨⟨⟨⟨hN, hn⟩, hx⟩, hsel⟩, hlex⟩ := hB
  have hNl : N < L.length := by omega
  rw [List.getElem?_eq_getElem hNl] at hx
  have hLx : L = L.take N ++ [L[N]] := by
    conv => lhs; rw [← List.take_append_drop N L]
    congr 1
    rw [List.drop_eq_getElem_cons hNl, List.drop_eq_nil_of_le (by omega)]
  have ok := lastB_ok hx
  have hlen : (L.take N).length = N := by rw [List.length_take]; omega
  have htk : ∀ j, j < N → (L.take N)[j]? = L[j]? := fun j hj => List.getElem?_take_of_lt hj
  refine wp_region_any hm ?_
  have hgo : wpAnyH P .any (L.take N).toArray (lastPost P L[N] Q) S (N - n + (L.take n).length) (Array.replicate N false) a w.drew := by
    refine held_of_float (Q := lastPost P L[N] Q) hsel (fun c a d v w h => hQ c a d v w h) hS (L.take n) 0 _ a _ (fun j hj => ?_) ?_ (fun a' listed' hs hc => ?_) h
    · rw [List.length_take] at hj
      rw [List.getElem?_toArray, Nat.zero_add, htk j (by omega), List.getElem?_take_of_lt (by omega)]
    · rw [show (L.take n).length = n by rw [List.length_take]; omega]
      exact hlex
    · have hl2 : ((L.take N).drop n).length = N - n := by rw [List.length_drop, hlen]
      have hd : L.drop n = (L.take N).drop n ++ [L[N]] := by
        conv => lhs; rw [hLx]
        rw [List.drop_append_of_le_length (by rw [hlen]; exact hn)]
      rw [hd] at hc
      have := held_of_chain (md := .any) (l := L.take N) ((L.take N).drop n) n listed' a' w.drew (fun j => by rw [List.getElem?_drop]) (fun o ho => ok.gl o (List.mem_of_mem_drop ho))
        (by rw [hl2]; rwa [show (0 + (L.take n).length) = n by rw [List.length_take]; omega] at hs) hc
      rw [hl2] at this
      exact this
  have := wpAny_trunc (Q := Q) ok _ _ a w.drew (by rw [hlen]; simp) (fun j o ho hj => by rw [show (Array.replicate N false).getD j false = false by simp [Array.getElem?_replicate]; split <;> rfl] at hj; cases hj) (wpAny_of_held _ _ _ _ hgo)
  rw [show N - n + (L.take n).length + 1 = L.toArray.size by rw [List.length_take, List.size_toArray]; omega] at this
  rw [show (Array.replicate N false).push false = Array.replicate L.toArray.size false by rw [List.size_toArray, ← hN]; exact (Array.replicate_succ).symm] at this
  rw [← hLx] at this
  exact this

theorem wpFloat_step {ops : Array Oper} {S : World → Prop} {o : Oper} {r : List Oper} {K : Act → Prop} {a : Act} {v : Value} (hg : o.guard = none) (hy : ∀ w, S w → (execOp a.eval o).run P w = .ok (.value v) w) (h : wpFloat P ops S r K (a.put o.dst v)) : wpFloat P ops S (o :: r) K a :=
  ⟨v, .inl ⟨wanted_none hg _, hy⟩, h⟩
theorem wpFloat_nil {ops : Array Oper} {S : World → Prop} {K : Act → Prop} {a : Act} (h : K a) : wpFloat P ops S [] K a := h
theorem wpChain_step {S : World → Prop} {o o' : Oper} {r : List Oper} {a : Act} {w : World} (h : ∀ K : Act → World → Prop, RowKit.Hid (∀ a w, S w → wpChain P Q S (o' :: r) a w → K a w) → o.wp P a w K Q) : wpChain P Q S (o :: o' :: r) a w :=
  h _ (fun _ _ h1 h2 => ⟨h1, h2⟩)
theorem wpChain_last {S : World → Prop} {o : Oper} {a : Act} {w : World} (h : ∀ K : Act → World → Prop, RowKit.Hid (∀ a w, Q .normal a w → K a w) → o.wp P a w K Q) : wpChain P Q S [o] a w :=
  h _ (fun _ _ h1 => h1)

end
end Go.Proofs.Ytefnjhdmpnfacaa
