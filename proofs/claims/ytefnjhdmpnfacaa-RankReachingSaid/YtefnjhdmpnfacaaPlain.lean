/- The plain functions of package rank: distances, offers, routes, what is chosen. No program in sight. -/
import Derived.Test.YtefnjhdmpnfacaaExt
namespace Go.Proofs.Ytefnjhdmpnfacaa

/-- An offer: who tells, what is told, what the link costs. -/
structure Off where
  peer : Int
  seq : Int
  rank : Int
  cost : Int
deriving DecidableEq

/-- A route: Own, Least, Parent. -/
structure Rte where
  os : Int
  orr : Int
  ls : Int
  lr : Int
  par : Int
deriving DecidableEq

/-- Better: (a, x) than (b, y). -/
def betB (a x b y : Int) : Bool := decide (b < a ∨ (a = b ∧ x < y))
def dstB (s r : Int) : Bool := decide (0 ≤ s ∧ s ≤ 1000000000 ∧ 0 ≤ r ∧ r ≤ 1000000)
def rteB (r : Rte) : Bool := dstB r.os r.orr && dstB r.ls r.lr && !betB r.os r.orr r.ls r.lr && decide (-1 ≤ r.par ∧ r.par < 60)
def offB (o : Off) : Bool := decide (0 ≤ o.peer ∧ o.peer < 60 ∧ (0 ≤ o.seq ∧ o.seq ≤ 1000000000 ∧ 0 ≤ o.rank ∧ o.rank ≤ 1000000) ∧ 1 ≤ o.cost ∧ o.cost ≤ 4096)
/-- Offers: each valid, of different peers. -/
def offsB (l : List Off) : Bool := l.all offB && decide ((l.map Off.peer).Nodup)
def startF (root : Bool) (seq : Int) : Rte := if 0 ≤ seq ∧ seq ≤ 1000000000 then ⟨seq, if root then 0 else 1000000, seq, 0, -1⟩ else ⟨0, 0, 0, 0, 0⟩
def feasB (r : Rte) (s k : Int) : Bool := decide (k < 1000000) && betB s k r.ls r.lr
def possB (r : Rte) (o : Off) : Bool := decide (o.rank + o.cost < 1000000) && (betB o.seq o.rank r.ls r.lr || (decide (o.peer = r.par) && decide (r.os ≤ o.seq)))
/-- Which offer comes first. -/
def befB (a b : Off) : Bool := betB a.seq (a.rank + a.cost) b.seq (b.rank + b.cost) || (decide (a.seq = b.seq ∧ a.rank + a.cost = b.rank + b.cost) && decide (a.peer < b.peer))
/-- The first one of the possible offers, one after the other. -/
def pick (r : Rte) (best : Option Off) (o : Off) : Option Off :=
  if possB r o = true then (match best with | none => some o | some b => if befB o b = true then some o else some b) else best
def firstF (r : Rte) (l : List Off) : Option Off := l.foldl (pick r) none
def takeF (r : Rte) (o : Off) : Rte :=
  if betB o.seq (o.rank + o.cost) r.ls r.lr = true then ⟨o.seq, o.rank + o.cost, o.seq, o.rank + o.cost, o.peer⟩ else ⟨o.seq, o.rank + o.cost, r.ls, r.lr, o.peer⟩
def chooseF (r : Rte) (l : List Off) : Rte :=
  if rteB r = true ∧ offsB l = true then (match firstF r l with | none => ⟨r.os, 1000000, r.ls, r.lr, -1⟩ | some o => takeF r o) else r
def renewF (r : Rte) (seq : Int) : Rte := if rteB r = true ∧ seq ≤ 1000000000 ∧ betB seq 0 r.ls r.lr = true then startF true seq else r

theorem dst_bd {s r : Int} (h : dstB s r = true) : 0 ≤ s ∧ s ≤ 1000000000 ∧ 0 ≤ r ∧ r ≤ 1000000 := of_decide_eq_true h
theorem dst_mk {s r : Int} (h : 0 ≤ s ∧ s ≤ 1000000000 ∧ 0 ≤ r ∧ r ≤ 1000000) : dstB s r = true := decide_eq_true h
theorem off_bd {o : Off} (h : offB o = true) : 0 ≤ o.peer ∧ o.peer < 60 ∧ (0 ≤ o.seq ∧ o.seq ≤ 1000000000 ∧ 0 ≤ o.rank ∧ o.rank ≤ 1000000) ∧ 1 ≤ o.cost ∧ o.cost ≤ 4096 := of_decide_eq_true h
theorem rte_bd {r : Rte} (h : rteB r = true) : (0 ≤ r.os ∧ r.os ≤ 1000000000 ∧ 0 ≤ r.orr ∧ r.orr ≤ 1000000) ∧ (0 ≤ r.ls ∧ r.ls ≤ 1000000000 ∧ 0 ≤ r.lr ∧ r.lr ≤ 1000000) ∧ betB r.os r.orr r.ls r.lr = false ∧ -1 ≤ r.par ∧ r.par < 60 := by
  simp only [rteB, Bool.and_eq_true, Bool.not_eq_true', decide_eq_true_eq] at h
  exact ⟨dst_bd h.1.1.1, dst_bd h.1.1.2, h.1.2, h.2.1, h.2.2⟩
theorem bet_t {a x b y : Int} (h : b < a ∨ (a = b ∧ x < y)) : betB a x b y = true := decide_eq_true h
theorem bet_f {a x b y : Int} (h : ¬ (b < a ∨ (a = b ∧ x < y))) : betB a x b y = false := decide_eq_false h
theorem bet_iff {a x b y : Int} : betB a x b y = true ↔ b < a ∨ (a = b ∧ x < y) := decide_eq_true_iff
theorem bet_nif {a x b y : Int} : betB a x b y = false ↔ ¬ (b < a ∨ (a = b ∧ x < y)) := decide_eq_false_iff_not

end Go.Proofs.Ytefnjhdmpnfacaa
