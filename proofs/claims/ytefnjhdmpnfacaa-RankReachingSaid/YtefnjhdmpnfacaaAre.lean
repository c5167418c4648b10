/- The contract of package rank's areOffers: each offer valid, no two of one peer. -/
import Derived.Test.YtefnjhdmpnfacaaFirst
namespace Go.Proofs.Ytefnjhdmpnfacaa
open Go.RowKit

/-- The table of the peers that have been seen. -/
def seenCells (ps : List Int) : Array Value := ((List.range 60).map fun (j : Nat) => Value.bool (decide ((j : Int) ∈ ps))).toArray

theorem seen_get (ps : List Int) {q : Nat} (hq : q < 60) : (seenCells ps)[q]? = some (.bool (decide ((q : Int) ∈ ps))) := by
  simp [seenCells, hq]

theorem seen_set (ps : List Int) (q : Nat) : (seenCells ps).setIfInBounds q (.bool true) = seenCells (ps ++ [(q : Int)]) := by
  apply Array.ext
  · simp [seenCells]
  · intro i h1 h2
    simp only [seenCells, List.setIfInBounds_toArray, List.getElem_toArray, List.getElem_set, List.getElem_map, List.getElem_range]
    by_cases h : q = i
    · subst h; simp
    · rw [if_neg h]
      have : ¬ (i : Int) = (q : Int) := by omega
      simp [this]

theorem offs_snoc {l : List Off} {o : Off} (h : offsB l = true) (ho : offB o = true) (hn : o.peer ∉ l.map Off.peer) : offsB (l ++ [o]) = true := by
  simp only [offsB, Bool.and_eq_true, List.all_append, List.map_append, List.all_cons, List.all_nil, Bool.and_true, decide_eq_true_eq, List.map_cons, List.map_nil] at h ⊢
  refine ⟨⟨h.1, ho⟩, ?_⟩
  rw [List.nodup_append]
  refine ⟨h.2, by simp, ?_⟩
  intro a ha b hb
  simp at hb
  subst hb
  rintro rfl
  exact hn ha

theorem offs_bad {l : List Off} {o : Off} {k : Nat} (hk : l[k]? = some o) (ho : offB o = false) : offsB l = false := by
  have hm := List.mem_of_getElem? hk
  have : l.all offB = false := by
    rw [List.all_eq_false]
    exact ⟨o, hm, by simp [ho]⟩
  simp [offsB, this]

theorem offs_twice {l : List Off} {o : Off} {k : Nat} (hk : l[k]? = some o) (ho : o.peer ∈ (l.take k).map Off.peer) : offsB l = false := by
  have hnd : ¬ (l.map Off.peer).Nodup := by
    intro hn
    have e : l = l.take k ++ o :: l.drop (k + 1) := by
      obtain ⟨hlt, rfl⟩ := List.getElem?_eq_some_iff.1 hk
      rw [← List.drop_eq_getElem_cons hlt, List.take_append_drop]
    rw [e, List.map_append, List.nodup_append] at hn
    exact hn.2.2 _ ho _ (by simp) rfl
  simp [offsB, hnd]

theorem off_f {o : Off} (h : ¬ (0 ≤ o.peer ∧ o.peer < 60 ∧ (0 ≤ o.seq ∧ o.seq ≤ 1000000000 ∧ 0 ≤ o.rank ∧ o.rank ≤ 1000000) ∧ 1 ≤ o.cost ∧ o.cost ≤ 4096)) : offB o = false := decide_eq_false h
theorem off_t {o : Off} (h : 0 ≤ o.peer ∧ o.peer < 60 ∧ (0 ≤ o.seq ∧ o.seq ≤ 1000000000 ∧ 0 ≤ o.rank ∧ o.rank ≤ 1000000) ∧ 1 ≤ o.cost ∧ o.cost ≤ 4096) : offB o = true := decide_eq_true h

theorem take_step {xs : List Off} {k : Nat} {o : Off} (h : xs[k]? = some o) : xs.take (k + 1) = xs.take k ++ [o] := by
  rw [List.take_add_one, h]; rfl

theorem seen_none : seenCells [] = #[.bool false, .bool false, .bool false, .bool false, .bool false, .bool false, .bool false, .bool false, .bool false, .bool false, .bool false, .bool false, .bool false, .bool false, .bool false, .bool false, .bool false, .bool false, .bool false, .bool false, .bool false, .bool false, .bool false, .bool false, .bool false, .bool false, .bool false, .bool false, .bool false, .bool false, .bool false, .bool false, .bool false, .bool false, .bool false, .bool false, .bool false, .bool false, .bool false, .bool false, .bool false, .bool false, .bool false, .bool false, .bool false, .bool false, .bool false, .bool false, .bool false, .bool false, .bool false, .bool false, .bool false, .bool false, .bool false, .bool false, .bool false, .bool false, .bool false, .bool false] := by kernel_rfl

/-- What is known in a round of areOffers. -/
structure AI (w wr : World) (ps : List Int) : Prop where
  acc : Below w.heap.size w wr
  seen : Whole wr w.heap.size 73 (seenCells ps)

theorem AI.below {w wr wx : World} {ps : List Int} (h : AI w wr ps) (hb : Below wr.heap.size wr wx) : AI w wx ps :=
  ⟨below_next hb h.acc h.acc.size, h.seen.below hb h.seen.lt⟩

theorem AI.set {w wr : World} {ps : List Int} (h : AI w wr ps) (q : Nat) : AI w (wr.setCell ⟨w.heap.size, q, none⟩ (.bool true)) (ps ++ [(q : Int)]) :=
  ⟨h.acc.setCell (Nat.le_refl _) _, by rw [← seen_set]; exact h.seen.set q _⟩

set_option maxHeartbeats 2000000 in
set_option maxRecDepth 100000 in
theorem areOffers_is (xs : List Off) (A : Option Addr) (len cap : Nat) (v : Bool) (w : World) (hx : Offs w A len xs) (hlen : len ≤ 1000000) (hv : v = offsB xs) :
    Calls Try.prog 35 #[.slice A len cap] w fun e w' => e = .returned (.bool v) ∧ Below w.heap.size w w' := by
  have HX := Lib.hid hx
  have HV := Lib.hid hv
  clear hx hv
  go_enter Try.func35, Try.ntmps35
  go_wp2_with fail
  have I0 : AI w (w.alloc (.cells #[.bool false, .bool false, .bool false, .bool false, .bool false, .bool false, .bool false, .bool false, .bool false, .bool false, .bool false, .bool false, .bool false, .bool false, .bool false, .bool false, .bool false, .bool false, .bool false, .bool false, .bool false, .bool false, .bool false, .bool false, .bool false, .bool false, .bool false, .bool false, .bool false, .bool false, .bool false, .bool false, .bool false, .bool false, .bool false, .bool false, .bool false, .bool false, .bool false, .bool false, .bool false, .bool false, .bool false, .bool false, .bool false, .bool false, .bool false, .bool false, .bool false, .bool false, .bool false, .bool false, .bool false, .bool false, .bool false, .bool false, .bool false, .bool false, .bool false, .bool false] 73)) [] := by
    rw [← seen_none]
    exact ⟨(Below.refl _ _).alloc (Nat.le_refl _) _, Whole.new _ _ _⟩
  have HI := Lib.hid I0
  clear I0
  go_loopw [8] (fun i wr => ∃ k : Nat, k ≤ len ∧ i = .int .i64 k ∧ offsB (xs.take k) = true ∧ AI w wr ((xs.take k).map Off.peer)) (fun i _ => len - (intOf i).toNat)
  case atStart => exact ⟨0, by omega, rfl, by simp [offsB], HI.out⟩
  case round =>
    obtain ⟨k, hk, rfl, hok, hI⟩ := hrel
    have HK := Lib.hid hok
    clear hok
    by_cases hlt : k < len
    · obtain ⟨b, off, ⟨p, s, rk, c⟩, rfl, ho, c0, c1, c2, c3⟩ := (HX.out.below hI.acc).at_ hlt
      simp only at c0 c1 c2 c3
      have HO := Lib.hid ho
      clear ho
      by_cases h0 : p < 0
      · obtain rfl : v = false := by rw [HV.out]; exact offs_bad HO.out (off_f (by simp only; omega))
        go_wp2
        go_ret
        exact ⟨rfl, (hI.acc.alloc hI.acc.size _)⟩
      · obtain ⟨q, rfl⟩ := Int.eq_ofNat_of_zero_le (show 0 ≤ p by omega)
        by_cases h1 : 60 ≤ q
        · obtain rfl : v = false := by rw [HV.out]; exact offs_bad HO.out (off_f (by simp only; omega))
          have h1' : (60 : Int) ≤ (q : Int) := by omega
          clear h1
          go_wp2
          go_ret
          exact ⟨rfl, (hI.acc.alloc hI.acc.size _)⟩
        · have hq : q < 60 := by omega
          have h1' : (q : Int) < 60 := by omega
          have sq : wr.cell? ⟨w.heap.size, q, none⟩ = some (.bool (decide ((q : Int) ∈ (xs.take k).map Off.peer))) := (hI.seen.cell q).trans (seen_get _ hq)
          have sf := hI.seen.frozen q
          have sl := hI.seen.lt
          rcases Bool.eq_false_or_eq_true (decide ((q : Int) ∈ (xs.take k).map Off.peer)) with hs | hs
          · rw [hs] at sq
            obtain rfl : v = false := by rw [HV.out]; exact offs_twice HO.out (of_decide_eq_true hs)
            clear hs h1
            go_wp2
            go_ret
            exact ⟨rfl, (hI.acc.alloc hI.acc.size _)⟩
          · rw [hs] at sq
            have HS := Lib.hid (of_decide_eq_false hs)
            clear hs h1
            rcases Bool.eq_false_or_eq_true (dstB s rk) with hd | hd
            · have HD := Lib.hid hd.symm
              have HB := Lib.hid (dst_bd hd)
              clear hd
              by_cases h3 : c < 1
              · obtain rfl : v = false := by rw [HV.out]; exact offs_bad HO.out (off_f (by simp only; omega))
                go_wp2_with (go_at_call 42; (with_reducible refine (wvalid_is s rk true _ HD.out).mono ?_); rintro e w' ⟨rfl, rfl⟩)
                go_ret
                exact ⟨rfl, (hI.acc.alloc hI.acc.size _).alloc (by have := hI.acc.size; simp; omega) _⟩
              · by_cases h4 : 4096 < c
                · obtain rfl : v = false := by rw [HV.out]; exact offs_bad HO.out (off_f (by simp only; omega))
                  go_wp2_with (go_at_call 42; (with_reducible refine (wvalid_is s rk true _ HD.out).mono ?_); rintro e w' ⟨rfl, rfl⟩)
                  go_ret
                  exact ⟨rfl, (hI.acc.alloc hI.acc.size _).alloc (by have := hI.acc.size; simp; omega) _⟩
                · have HF := Lib.hid (off_t (o := ⟨q, s, rk, c⟩) ⟨by simp only; omega, by simp only; omega, HB.out, by simp only; omega, by simp only; omega⟩)
                  go_wp2_with (go_at_call 42; (with_reducible refine (wvalid_is s rk true _ HD.out).mono ?_); rintro e w' ⟨rfl, rfl⟩)
                  go_roundw
                  case rel => exact ⟨k + 1, by omega, by go_num, by rw [take_step HO.out]; exact offs_snoc HK.out HF.out HS.out, by rw [take_step HO.out, List.map_append]; exact (hI.set q).below (((Below.refl _ _).alloc (Nat.le_refl _) _).alloc (by simp) _)⟩
                  case measure => simp [intOf]; omega
            · obtain rfl : v = false := by rw [HV.out]; exact offs_bad HO.out (off_f (fun hh => by have := dst_mk (s := s) (r := rk) hh.2.2.1; rw [hd] at this; cases this))
              have HD := Lib.hid hd.symm
              clear hd
              go_wp2_with (go_at_call 42; (with_reducible refine (wvalid_is s rk false _ HD.out).mono ?_); rintro e w' ⟨rfl, rfl⟩)
              go_ret
              exact ⟨rfl, (hI.acc.alloc hI.acc.size _).alloc (by have := hI.acc.size; simp; omega) _⟩
    · obtain rfl : v = true := by
        have hkl : k = xs.length := by have := HX.out.1; omega
        have h := HK.out
        rw [hkl, List.take_length] at h
        rw [HV.out, h]
      go_wp2
      go_ret
      exact ⟨rfl, hI.acc⟩

end Go.Proofs.Ytefnjhdmpnfacaa
