/- The mesh of the last two laws as plain data: moves, what nodes tell and hear, and what every move keeps. No program in sight. -/
import Derived.Test.YtefnjhdmpnfacaaChoicePlain
namespace Go.Proofs.Ytefnjhdmpnfacaa

/-- A distance that is told. -/
structure Dst where
  s : Int
  r : Int
deriving DecidableEq
instance : Inhabited Dst := ⟨⟨0, 0⟩⟩

/-- A move. -/
structure Mv where
  what : Int
  node : Int
  src : Int
  late : Int
  cost : Int

/-- The mesh: routes, what each node has told, what each has heard. -/
structure St where
  rs : Nat → Rte
  told : Nat → List Dst
  heard : Nat → List Off

def upd {α : Type} (f : Nat → α) (i : Nat) (x : α) : Nat → α := fun j => if j = i then x else f j
theorem upd_same {α : Type} (f : Nat → α) (i : Nat) (x : α) : upd f i x i = x := if_pos rfl
theorem upd_far {α : Type} (f : Nat → α) {i j : Nat} (x : α) (h : j ≠ i) : upd f i x j = f j := if_neg h

/-- What is heard replaces what was heard of the same peer, or is added. -/
def hearL : List Off → Off → List Off
  | [], o => [o]
  | x :: l, o => if x.peer = o.peer then o :: l else x :: hearL l o

theorem hearL_add : ∀ (l : List Off) (o : Off), (∀ x ∈ l, x.peer ≠ o.peer) → hearL l o = l ++ [o]
  | [], _, _ => rfl
  | x :: l, o, h => by
    rw [hearL, if_neg (h x List.mem_cons_self), hearL_add l o (fun y hy => h y (List.mem_cons_of_mem _ hy))]
    rfl
theorem hearL_set : ∀ (l : List Off) (o : Off) (k : Nat) (x : Off), l[k]? = some x → x.peer = o.peer → (∀ y ∈ l.take k, y.peer ≠ o.peer) → hearL l o = l.set k o
  | [], _, _, _, hk, _, _ => by simp at hk
  | y :: l, o, 0, x, hk, hx, _ => by
    simp at hk
    subst hk
    rw [hearL, if_pos hx]
    rfl
  | y :: l, o, k + 1, x, hk, hx, h => by
    rw [hearL, if_neg (h y (by simp)), hearL_set l o k x (by simpa using hk) hx (fun z hz => h z (by simp [hz]))]
    rfl
theorem hearL_mem : ∀ {l : List Off} {o x : Off}, x ∈ hearL l o → x = o ∨ (x ∈ l ∧ x.peer ≠ o.peer) ∨ x ∈ l
  | [], o, x, h => by simp [hearL] at h; exact .inl h
  | y :: l, o, x, h => by
    rw [hearL] at h
    split at h
    · rcases List.mem_cons.1 h with rfl | h
      · exact .inl rfl
      · exact .inr (.inr (List.mem_cons_of_mem _ h))
    · rcases List.mem_cons.1 h with rfl | h
      · exact .inr (.inr List.mem_cons_self)
      · rcases hearL_mem h with h | h | h
        · exact .inl h
        · exact .inr (.inr (List.mem_cons_of_mem _ h.1))
        · exact .inr (.inr (List.mem_cons_of_mem _ h))
theorem hearL_len : ∀ (l : List Off) (o : Off), l.length ≤ (hearL l o).length ∧ (hearL l o).length ≤ l.length + 1
  | [], _ => by simp [hearL]
  | y :: l, o => by
    rw [hearL]
    split
    · simp
    · have := hearL_len l o
      simp only [List.length_cons]
      omega
theorem hearL_peers : ∀ (l : List Off) (o : Off) (p : Int), p ∈ (hearL l o).map Off.peer → p = o.peer ∨ p ∈ l.map Off.peer
  | [], o, p, h => by simp [hearL] at h; exact .inl h
  | y :: l, o, p, h => by
    rw [hearL] at h
    split at h
    · rename_i he
      rw [List.map_cons, List.mem_cons] at h
      rcases h with h | h
      · exact .inl h
      · exact .inr (by rw [List.map_cons]; exact List.mem_cons_of_mem _ h)
    · rw [List.map_cons, List.mem_cons] at h
      rcases h with h | h
      · exact .inr (by rw [List.map_cons, h]; exact List.mem_cons_self)
      · rcases hearL_peers l o p h with h | h
        · exact .inl h
        · exact .inr (by rw [List.map_cons]; exact List.mem_cons_of_mem _ h)
theorem hearL_nodup : ∀ (l : List Off) (o : Off), (l.map Off.peer).Nodup → ((hearL l o).map Off.peer).Nodup
  | [], _, _ => by simp [hearL]
  | y :: l, o, h => by
    rw [List.map_cons, List.nodup_cons] at h
    rw [hearL]
    split
    · rename_i he
      rw [List.map_cons, List.nodup_cons, ← he]
      exact h
    · rename_i he
      rw [List.map_cons, List.nodup_cons]
      refine ⟨fun hm => ?_, hearL_nodup l o h.2⟩
      rcases hearL_peers l o _ hm with hq | hq
      · exact he hq
      · exact h.1 hq

def Rte.own (r : Rte) : Dst := ⟨r.os, r.orr⟩

/-- The route i becomes r, and i tells it. -/
def St.tell (m : St) (i : Nat) (r : Rte) : St := { m with rs := upd m.rs i r, told := upd m.told i (m.told i ++ [r.own]) }
def St.hear (m : St) (i : Nat) (o : Off) : St := { m with heard := upd m.heard i (hearL (m.heard i) o) }
def St.forget (m : St) (i : Nat) : St := { m with heard := upd m.heard i [] }

/-- Which of what was told is heard. -/
def lateK (len : Nat) (late : Int) : Nat := len - 1 - (late % 8).toNat

def idx (n : Nat) (a : Int) : Nat := (a % (n : Int)).toNat
theorem idx_lt {n : Nat} (h : 0 < n) (a : Int) : idx n a < n := by
  have := Int.emod_nonneg a (show (n : Int) ≠ 0 by omega)
  have := Int.emod_lt_of_pos a (show (0 : Int) < n by omega)
  unfold idx
  omega
theorem idx_eq {n : Nat} (h : 0 < n) (a : Int) : a % (n : Int) = (idx n a : Nat) := by
  have := Int.emod_nonneg a (show (n : Int) ≠ 0 by omega)
  unfold idx
  omega

/-- One move. -/
def stepF (n : Nat) (m : St) (x : Mv) : St :=
  if x.what % 4 = 0 then (if 0 < idx n x.node then m.tell (idx n x.node) (chooseF (m.rs (idx n x.node)) (m.heard (idx n x.node))) else m)
  else if x.what % 4 = 1 then
    (if idx n x.node = idx n x.src then m
     else m.hear (idx n x.node) ⟨(idx n x.src : Nat), ((m.told (idx n x.src)).getD (lateK (m.told (idx n x.src)).length x.late) default).s, ((m.told (idx n x.src)).getD (lateK (m.told (idx n x.src)).length x.late) default).r, 1 + x.cost % 4096⟩)
  else if x.what % 4 = 2 then (m.tell (idx n x.node) (startF (decide (idx n x.node = 0)) (m.rs (idx n x.node)).os)).forget (idx n x.node)
  else m.tell 0 (renewF (m.rs 0) ((m.rs 0).os + 1))

/-- The mesh at the start. -/
def startSt : St := ⟨fun i => startF (decide (i = 0)) 0, fun i => [(startF (decide (i = 0)) 0).own], fun _ => []⟩

/-- What every move keeps, N being how many have been made. -/
structure Inv (n N : Nat) (m : St) : Prop where
  valid : ∀ i, i < n → rteB (m.rs i) = true
  seq : ∀ i, i < n → (m.rs i).os = (m.rs i).ls
  low : ∀ i, i < n → (m.rs i).os ≤ N
  root : (m.rs 0).par = -1
  par : ∀ i, i < n → (m.rs i).par = -1 ∨ ∃ p : Nat, p < n ∧ (m.rs i).par = (p : Nat) ∧ betB (m.rs p).ls (m.rs p).lr (m.rs i).ls (m.rs i).lr = true
  tlen : ∀ i, i < n → 0 < (m.told i).length ∧ (m.told i).length ≤ N + 1
  told : ∀ i, i < n → ∀ d ∈ m.told i, dstB d.s d.r = true ∧ betB d.s d.r (m.rs i).ls (m.rs i).lr = false
  hlen : ∀ i, i < n → (m.heard i).length ≤ N
  nodup : ∀ i, i < n → ((m.heard i).map Off.peer).Nodup
  heard : ∀ i, i < n → ∀ o ∈ m.heard i, ∃ p : Nat, p < n ∧ o.peer = (p : Nat) ∧ offB o = true ∧ betB o.seq o.rank (m.rs p).ls (m.rs p).lr = false

theorem bet_weak {a x b y c z : Int} (h : betB a x b y = false) (k : betB b y c z = false) : betB a x c z = false := by
  rw [bet_nif] at h k ⊢; omega
theorem bet_lt_of {a x b y c z : Int} (h : betB a x b y = true) (k : betB c z b y = false) : betB a x c z = true := by
  rw [bet_iff] at h ⊢; rw [bet_nif] at k; omega
theorem bet_of_lt {a x b y c z : Int} (h : betB b y a x = false) (k : betB b y c z = true) : betB a x c z = true := by
  rw [bet_iff] at k ⊢; rw [bet_nif] at h; omega

/-- A node takes a new route: its Least not worse, its parent's Least better. -/
theorem Inv.tell {n N : Nat} {m : St} (h : Inv n N m) {i : Nat} (hi : i < n) {r : Rte} (hv : rteB r = true) (hs : r.os = r.ls) (hl : r.os ≤ (N : Int) + 1)
    (hb : betB (m.rs i).ls (m.rs i).lr r.ls r.lr = false) (h0 : i = 0 → r.par = -1)
    (hp : r.par = -1 ∨ ∃ p : Nat, p < n ∧ p ≠ i ∧ r.par = (p : Nat) ∧ betB (m.rs p).ls (m.rs p).lr r.ls r.lr = true) : Inv n (N + 1) (m.tell i r) := by
  have hle : ∀ j, j < n → betB (m.rs j).ls (m.rs j).lr (upd m.rs i r j).ls (upd m.rs i r j).lr = false := by
    intro j hj
    by_cases e : j = i
    · subst e; rw [upd_same]; exact hb
    · rw [upd_far _ _ e]; rw [bet_nif]; omega
  obtain ⟨⟨o0, o1, o2, o3⟩, ⟨_, _, _, _⟩, hob, _, _⟩ := rte_bd hv
  refine ⟨?_, ?_, ?_, ?_, ?_, ?_, ?_, ?_, h.nodup, ?_⟩
  · intro j hj
    show rteB (upd m.rs i r j) = true
    by_cases e : j = i
    · subst e; rw [upd_same]; exact hv
    · rw [upd_far _ _ e]; exact h.valid j hj
  · intro j hj
    show (upd m.rs i r j).os = (upd m.rs i r j).ls
    by_cases e : j = i
    · subst e; rw [upd_same]; exact hs
    · rw [upd_far _ _ e]; exact h.seq j hj
  · intro j hj
    show (upd m.rs i r j).os ≤ ((N + 1 : Nat) : Int)
    by_cases e : j = i
    · subst e; rw [upd_same]; omega
    · rw [upd_far _ _ e]; have := h.low j hj; omega
  · show (upd m.rs i r 0).par = -1
    by_cases e : 0 = i
    · subst e; rw [upd_same]; exact h0 rfl
    · rw [upd_far _ _ e]; exact h.root
  · intro j hj
    show (upd m.rs i r j).par = -1 ∨ ∃ p : Nat, p < n ∧ (upd m.rs i r j).par = (p : Nat) ∧ betB (upd m.rs i r p).ls (upd m.rs i r p).lr (upd m.rs i r j).ls (upd m.rs i r j).lr = true
    by_cases e : j = i
    · subst e
      rw [upd_same]
      rcases hp with hp | ⟨p, h1, h2, h3, h4⟩
      · exact .inl hp
      · exact .inr ⟨p, h1, h3, by rw [upd_far _ _ h2]; exact h4⟩
    · rw [upd_far _ _ e]
      rcases h.par j hj with hq | ⟨p, h1, h3, h4⟩
      · exact .inl hq
      · exact .inr ⟨p, h1, h3, bet_of_lt (hle p h1) h4⟩
  · intro j hj
    show 0 < (upd m.told i _ j).length ∧ (upd m.told i _ j).length ≤ N + 1 + 1
    have := h.tlen j hj
    by_cases e : j = i
    · subst e; rw [upd_same]; simp; omega
    · rw [upd_far _ _ e]; omega
  · intro j hj d hd
    change d ∈ upd m.told i _ j at hd
    show dstB d.s d.r = true ∧ betB d.s d.r (upd m.rs i r j).ls (upd m.rs i r j).lr = false
    have hold : ∀ d ∈ m.told j, dstB d.s d.r = true ∧ betB d.s d.r (upd m.rs i r j).ls (upd m.rs i r j).lr = false := fun d hd => by
      obtain ⟨k1, k2⟩ := h.told j hj d hd
      exact ⟨k1, bet_weak k2 (hle j hj)⟩
    by_cases e : j = i
    · subst e
      rw [upd_same] at hd
      rcases List.mem_append.1 hd with hd | hd
      · exact hold d hd
      · rw [List.mem_singleton] at hd
        subst hd
        exact ⟨dst_mk ⟨o0, o1, o2, o3⟩, by rw [upd_same]; exact hob⟩
    · rw [upd_far _ _ e] at hd
      exact hold d hd
  · intro j hj
    have := h.hlen j hj
    show (m.heard j).length ≤ N + 1
    omega
  · intro j hj o ho
    obtain ⟨p, h1, h2, h3, h4⟩ := h.heard j hj o ho
    exact ⟨p, h1, h2, h3, bet_weak h4 (hle p h1)⟩

theorem Inv.forget {n N : Nat} {m : St} (h : Inv n N m) (i : Nat) : Inv n N (m.forget i) := by
  have hm : ∀ j o, o ∈ (m.forget i).heard j → o ∈ m.heard j := by
    intro j o ho
    change o ∈ upd m.heard i [] j at ho
    by_cases e : j = i
    · subst e; rw [upd_same] at ho; cases ho
    · rwa [upd_far _ _ e] at ho
  refine ⟨h.valid, h.seq, h.low, h.root, h.par, h.tlen, h.told, ?_, ?_, fun j hj o ho => h.heard j hj o (hm j o ho)⟩
  · intro j hj
    show (upd m.heard i [] j).length ≤ N
    by_cases e : j = i
    · subst e; rw [upd_same]; simp
    · rw [upd_far _ _ e]; exact h.hlen j hj
  · intro j hj
    show ((upd m.heard i [] j).map Off.peer).Nodup
    by_cases e : j = i
    · subst e; rw [upd_same]; simp
    · rw [upd_far _ _ e]; exact h.nodup j hj

theorem Inv.more {n N M : Nat} {m : St} (h : Inv n N m) (hM : N ≤ M) : Inv n M m :=
  ⟨h.valid, h.seq, fun i hi => by have := h.low i hi; omega, h.root, h.par, fun i hi => by have := h.tlen i hi; omega, h.told, fun i hi => by have := h.hlen i hi; omega, h.nodup, h.heard⟩

theorem Inv.hear {n N : Nat} {m : St} (h : Inv n N m) {i : Nat} {o : Off} {p : Nat} (hp : p < n) (ho : o.peer = (p : Nat)) (hv : offB o = true) (hb : betB o.seq o.rank (m.rs p).ls (m.rs p).lr = false) : Inv n (N + 1) (m.hear i o) := by
  have h' := h.more (Nat.le_succ N)
  refine ⟨h'.valid, h'.seq, h'.low, h'.root, h'.par, h'.tlen, h'.told, ?_, ?_, ?_⟩
  · intro j hj
    show (upd m.heard i _ j).length ≤ N + 1
    by_cases e : j = i
    · subst e; rw [upd_same]; have := hearL_len (m.heard j) o; have := h.hlen j hj; omega
    · rw [upd_far _ _ e]; exact h'.hlen j hj
  · intro j hj
    show ((upd m.heard i _ j).map Off.peer).Nodup
    by_cases e : j = i
    · subst e; rw [upd_same]; exact hearL_nodup _ _ (h.nodup j hj)
    · rw [upd_far _ _ e]; exact h.nodup j hj
  · intro j hj x hx
    change x ∈ upd m.heard i _ j at hx
    by_cases e : j = i
    · subst e
      rw [upd_same] at hx
      rcases hearL_mem hx with rfl | hx | hx
      · exact ⟨p, hp, ho, hv, hb⟩
      · exact h.heard j hj x hx.1
      · exact h.heard j hj x hx
    · rw [upd_far _ _ e] at hx
      exact h.heard j hj x hx

theorem Inv.offs {n N : Nat} {m : St} (h : Inv n N m) {i : Nat} (hi : i < n) : offsB (m.heard i) = true := by
  simp only [offsB, Bool.and_eq_true, List.all_eq_true, decide_eq_true_eq]
  exact ⟨fun o ho => by obtain ⟨p, _, _, h3, _⟩ := h.heard i hi o ho; exact h3, h.nodup i hi⟩

theorem start_rte (b : Bool) {s : Int} (h0 : 0 ≤ s) (h1 : s ≤ 1000000000) : startF b s = ⟨s, if b then 0 else 1000000, s, 0, -1⟩ := by
  unfold startF
  rw [if_pos ⟨h0, h1⟩]
theorem start_valid (b : Bool) {s : Int} (h0 : 0 ≤ s) (h1 : s ≤ 1000000000) : rteB (startF b s) = true := by
  rw [start_rte b h0 h1]
  simp only [rteB, dstB, betB, Bool.and_eq_true, decide_eq_true_eq, Bool.not_eq_true', decide_eq_false_iff_not]
  cases b <;> simp <;> omega

/-- A node chooses. -/
theorem Inv.choose {n N : Nat} {m : St} (h : Inv n N m) {i : Nat} (hi : i < n) (h0 : 0 < i) : Inv n (N + 1) (m.tell i (chooseF (m.rs i) (m.heard i))) := by
  have hv := h.valid i hi
  have hs := h.seq i hi
  have hl := h.low i hi
  obtain ⟨⟨a0, a1, a2, a3⟩, ⟨b0, b1, b2, b3⟩, hb, c0, c1⟩ := rte_bd hv
  rw [bet_nif] at hb
  rcases choose_two hv (h.offs hi) with ⟨_, h2⟩ | ⟨o, ho, hps, _, h2⟩
  · rw [h2]
    refine h.tell hi ?_ hs (by show (m.rs i).os ≤ _; omega) (bet_f (by simp only; omega)) (fun _ => rfl) (.inl rfl)
    simp only [rteB, dstB, betB, Bool.and_eq_true, decide_eq_true_eq, Bool.not_eq_true', decide_eq_false_iff_not]
    omega
  · rw [h2]
    obtain ⟨p, hpn, hpe, hov, hob⟩ := h.heard i hi o ho
    obtain ⟨d0, d1, ⟨d2, d3, d4, d5⟩, d6, d7⟩ := off_bd hov
    rw [poss_iff] at hps
    rw [bet_nif] at hob
    have hsp := h.seq p hpn
    have hlp := h.low p hpn
    -- the parent's Least is better than mine
    have key : betB (m.rs p).ls (m.rs p).lr (m.rs i).ls (m.rs i).lr = true := by
      rcases hps.2 with hq | hq
      · rw [bet_iff]; omega
      · rcases h.par i hi with he | ⟨q, _, hq2, hq3⟩
        · omega
        · have : q = p := by omega
          subst this
          exact hq3
    rw [bet_iff] at key
    have hsq : o.seq ≤ (m.rs p).ls := by omega
    have hne : p ≠ i := by
      rintro rfl
      omega
    unfold takeF
    split
    · next ht =>
      rw [bet_iff] at ht
      refine h.tell hi ?_ rfl (by show o.seq ≤ _; omega) (bet_f (by simp only; omega)) (fun e => by omega) (.inr ⟨p, hpn, hne, hpe, bet_t (by simp only; omega)⟩)
      simp only [rteB, dstB, betB, Bool.and_eq_true, decide_eq_true_eq, Bool.not_eq_true', decide_eq_false_iff_not]
      omega
    · next ht =>
      have ht' := Bool.eq_false_iff.2 ht
      rw [bet_nif] at ht'
      refine h.tell hi ?_ (by show o.seq = (m.rs i).ls; omega) (by show o.seq ≤ _; omega) (bet_f (by simp only; omega)) (fun e => by omega) (.inr ⟨p, hpn, hne, hpe, bet_t key⟩)
      simp only [rteB, dstB, betB, Bool.and_eq_true, decide_eq_true_eq, Bool.not_eq_true', decide_eq_false_iff_not]
      omega

theorem Inv.restart {n N : Nat} {m : St} (h : Inv n N m) {i : Nat} (hi : i < n) : Inv n (N + 1) (m.tell i (startF (decide (i = 0)) (m.rs i).os)) := by
  have hv := h.valid i hi
  have hs := h.seq i hi
  have hl := h.low i hi
  obtain ⟨⟨a0, a1, a2, a3⟩, ⟨b0, b1, b2, b3⟩, hb, c0, c1⟩ := rte_bd hv
  have e := start_rte (decide (i = 0)) a0 a1
  have hsv := start_valid (decide (i = 0)) a0 a1
  refine h.tell hi hsv ?_ ?_ ?_ ?_ ?_
  · rw [e]
  · rw [e]; simp only; omega
  · rw [e]; exact bet_f (by simp only; omega)
  · intro _; rw [e]
  · exact .inl (by rw [e])

theorem Inv.renew {n N : Nat} {m : St} (h : Inv n N m) (hn : 0 < n) (hN : N ≤ 1000) : renewF (m.rs 0) ((m.rs 0).os + 1) = ⟨(m.rs 0).os + 1, 0, (m.rs 0).os + 1, 0, -1⟩ ∧ Inv n (N + 1) (m.tell 0 (renewF (m.rs 0) ((m.rs 0).os + 1))) := by
  have hv := h.valid 0 hn
  have hs := h.seq 0 hn
  have hl := h.low 0 hn
  obtain ⟨⟨a0, a1, a2, a3⟩, ⟨b0, b1, b2, b3⟩, hb, c0, c1⟩ := rte_bd hv
  have e : renewF (m.rs 0) ((m.rs 0).os + 1) = ⟨(m.rs 0).os + 1, 0, (m.rs 0).os + 1, 0, -1⟩ := by
    unfold renewF
    rw [if_pos ⟨hv, by omega, bet_t (by omega)⟩, start_rte true (by omega) (by omega)]
    rfl
  refine ⟨e, ?_⟩
  rw [e]
  refine h.tell hn ?_ rfl (by simp only; omega) (bet_f (by simp only; omega)) (fun _ => rfl) (.inl rfl)
  simp only [rteB, dstB, betB, Bool.and_eq_true, decide_eq_true_eq, Bool.not_eq_true', decide_eq_false_iff_not]
  omega

theorem getD_mem {l : List Dst} {k : Nat} (h : k < l.length) : l.getD k default ∈ l := by
  rw [List.getD_eq_getElem?_getD, List.getElem?_eq_getElem h]
  exact List.getElem_mem h

theorem late_lt {len : Nat} (h : 0 < len) (late : Int) : lateK len late < len := by unfold lateK; omega

theorem Inv.step {n N : Nat} {m : St} (h : Inv n N m) (hn : 0 < n) (hn8 : n ≤ 60) (hN : N ≤ 1000) (x : Mv) : Inv n (N + 1) (stepF n m x) := by
  have hi := idx_lt hn x.node
  have hk := idx_lt hn x.src
  unfold stepF
  split
  · split
    · exact h.choose hi (by assumption)
    · exact h.more (Nat.le_succ N)
  · split
    · split
      · exact h.more (Nat.le_succ N)
      · have hm := getD_mem (late_lt (h.tlen _ hk).1 x.late)
        obtain ⟨h1, h2⟩ := h.told _ hk _ hm
        have hd := dst_bd h1
        refine h.hear hk rfl (decide_eq_true ?_) h2
        simp only
        omega
    · split
      · exact (h.restart hi).forget _
      · exact (h.renew hn hN).2

theorem Inv.start (n : Nat) : Inv n 0 startSt := by
  have e : ∀ i, (startSt.rs i) = ⟨0, if decide (i = 0) = true then 0 else 1000000, 0, 0, -1⟩ := fun i => start_rte (decide (i = 0)) (s := 0) (by decide) (by decide)
  have hv : ∀ i, rteB (startSt.rs i) = true := fun i => start_valid (decide (i = 0)) (s := 0) (by decide) (by decide)
  refine ⟨fun i _ => hv i, fun i _ => by rw [e], fun i _ => by rw [e]; simp, by rw [e], fun i _ => .inl (by rw [e]), fun i _ => by simp [startSt], ?_, fun i _ => by simp [startSt], fun i _ => by simp [startSt], fun i _ o ho => by simp [startSt] at ho⟩
  intro i _ d hd
  change d ∈ [(startSt.rs i).own] at hd
  rw [List.mem_singleton] at hd
  subst hd
  obtain ⟨h1, _, h3, _⟩ := rte_bd (hv i)
  exact ⟨dst_mk h1, h3⟩

theorem countP_le_of {α : Type} {p q : α → Bool} : ∀ (l : List α), (∀ x ∈ l, p x = true → q x = true) → l.countP p ≤ l.countP q
  | [], _ => by simp
  | y :: l, h => by
    have ih := countP_le_of l (fun x hx => h x (List.mem_cons_of_mem _ hx))
    rw [List.countP_cons, List.countP_cons]
    have hy := h y List.mem_cons_self
    by_cases hp : p y = true
    · rw [if_pos hp, if_pos (hy hp)]; omega
    · rw [if_neg hp]; omega
theorem countP_lt_of {α : Type} {p q : α → Bool} : ∀ (l : List α), (∀ x ∈ l, p x = true → q x = true) → (∃ x ∈ l, q x = true ∧ p x = false) → l.countP p < l.countP q
  | [], _, h => by obtain ⟨x, hx, _⟩ := h; cases hx
  | y :: l, h, ⟨x, hx, hq, hp⟩ => by
    have hall : ∀ x ∈ l, p x = true → q x = true := fun x hx => h x (List.mem_cons_of_mem _ hx)
    rw [List.countP_cons, List.countP_cons]
    rcases List.mem_cons.1 hx with rfl | hx
    · have := countP_le_of l hall
      rw [if_pos hq, if_neg (by rw [hp]; exact Bool.false_ne_true)]
      omega
    · have := countP_lt_of l hall ⟨x, hx, hq, hp⟩
      have hy := h y List.mem_cons_self
      by_cases hp' : p y = true
      · rw [if_pos hp', if_pos (hy hp')]; omega
      · rw [if_neg hp']; omega

/-- How many nodes have a better Least. -/
def rk (n : Nat) (m : St) (i : Nat) : Nat := (List.range n).countP fun j => betB (m.rs j).ls (m.rs j).lr (m.rs i).ls (m.rs i).lr

theorem rk_lt {n : Nat} (m : St) {i : Nat} (hi : i < n) : rk n m i < n := by
  have h := countP_lt_of (p := fun j => betB (m.rs j).ls (m.rs j).lr (m.rs i).ls (m.rs i).lr) (q := fun _ => true) (List.range n) (fun _ _ _ => rfl) ⟨i, List.mem_range.2 hi, rfl, by rw [bet_nif]; omega⟩
  simpa [rk] using h

theorem rk_par {n : Nat} (m : St) {i p : Nat} (hp : p < n) (h : betB (m.rs p).ls (m.rs p).lr (m.rs i).ls (m.rs i).lr = true) : rk n m p < rk n m i := by
  refine countP_lt_of (List.range n) (fun j _ hj => ?_) ⟨p, List.mem_range.2 hp, h, by rw [bet_nif]; omega⟩
  rw [bet_iff] at hj h ⊢
  omega

/-- What the law on loops asks behind each move: no parents form a loop. -/
structure Down (n : Nat) (m : St) (f : Nat → Nat) : Prop where
  lt : ∀ i, i < n → f i < n
  par : ∀ i, i < n → (m.rs i).par = -1 ∨ ∃ p : Nat, p < n ∧ (m.rs i).par = (p : Nat) ∧ f p < f i

theorem Inv.down {n N : Nat} {m : St} (h : Inv n N m) : Down n m (rk n m) :=
  ⟨fun _ hi => rk_lt m hi, fun i hi => by
    rcases h.par i hi with h | ⟨p, h1, h2, h3⟩
    · exact .inl h
    · exact .inr ⟨p, h1, h2, rk_par m h1 h3⟩⟩

end Go.Proofs.Ytefnjhdmpnfacaa
