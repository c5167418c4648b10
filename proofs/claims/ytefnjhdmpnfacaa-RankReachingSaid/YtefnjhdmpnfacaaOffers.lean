/- Contract of the reference's Offers: two loops, one in the other. -/
import Derived.Test.YtefnjhdmpnfacaaChoose
import Derived.Test.YtefnjhdmpnfacaaRef
namespace Go.Proofs.Ytefnjhdmpnfacaa
open Go.RowKit

theorem offs_eq {xs : List Off} {k j : Nat} {o p : Off} (hk : xs[k]? = some o) (hj : xs[j]? = some p) (hl : j < k) (h : p.peer = o.peer) : offsB xs = false := by
  refine offs_twice hk ?_
  rw [List.mem_map]
  refine ⟨p, List.mem_of_getElem? (i := j) ?_, h⟩
  rw [List.getElem?_take_of_lt hl]
  exact hj

set_option maxHeartbeats 2000000 in
theorem rOffers_is (xs : List Off) (A : Option Addr) (len cap : Nat) (v : Bool) (w : World) (hx : Offs w A len xs) (hlen : len ≤ 1000000) (hv : v = offsB xs) :
    Calls Try.prog 16 #[.slice A len cap] w fun e w' => e = .returned (.bool v) ∧ Below w.heap.size w w' := by
  have HX := Lib.hid hx
  have HV := Lib.hid hv
  clear hx hv
  go_enter Try.func16, Try.ntmps16
  go_wp2_with fail
  go_loopw [3] (fun i wr => ∃ k : Nat, k ≤ len ∧ i = .int .i64 k ∧ offsB (xs.take k) = true ∧ Below w.heap.size w wr) (fun i _ => len - (intOf i).toNat)
  case atStart => exact ⟨0, by omega, rfl, by simp [offsB], Below.refl _ _⟩
  case round =>
    obtain ⟨k, hk, rfl, hok, hI⟩ := hrel
    have HK := Lib.hid hok
    clear hok
    by_cases hlt : k < len
    · obtain ⟨b, off, ⟨p, s, rk, c⟩, rfl, ho, c0, c1, c2, c3⟩ := (HX.out.below hI).at_ hlt
      simp only at c0 c1 c2 c3
      have HO := Lib.hid ho
      clear ho
      rcases Bool.eq_false_or_eq_true (offB ⟨p, s, rk, c⟩) with hd | hd
      · have HD := Lib.hid hd.symm
        clear hd
        go_wp2_with fail
        (with_reducible refine (roffer_is p s rk c true _ HD.out).mono ?_)
        rintro e w1 ⟨rfl, hb⟩
        have HB := Lib.hid (below_next hb hI hI.size)
        clear hb hI c0 c1 c2 c3
        go_wp2_with fail
        go_loopw [4] (fun i wr => ∃ j : Nat, j ≤ k ∧ i = .int .i64 j ∧ p ∉ (xs.take j).map Off.peer ∧ Below w.heap.size w wr) (fun i _ => k - (intOf i).toNat)
        case atStart => exact ⟨0, by omega, rfl, by simp, HB.out⟩
        case round =>
          obtain ⟨j, hj, rfl, hno, hI⟩ := hrel
          have HN := Lib.hid hno
          clear hno
          have HX1 := HX.out.below hI
          obtain ⟨b', off', ⟨p', s', rk', c'⟩, e', ho', c0', c1', c2', c3'⟩ := HX1.at_ hlt
          cases e'
          have e3 := HO.out.symm.trans ho'
          cases e3
          by_cases hjk : j < k
          · obtain ⟨b', off', ⟨p1, s1, r1, k1⟩, e', ho1, d0, d1, d2, d3⟩ := HX1.at_ (k := j) (by omega)
            cases e'
            simp only at c0' d0
            clear c1' c2' c3' d1 d2 d3
            have HO1 := Lib.hid ho1
            clear ho1 ho'
            have hjl : j < len := by omega
            by_cases heq : p1 = p
            · obtain rfl : v = false := by rw [HV.out]; exact offs_eq HO.out HO1.out hjk heq
              subst heq
              go_wp2_with (go_quiet (fail))
              go_ret
              exact ⟨rfl, below_drewN hI _⟩
            · have heq' : (p1 == p) = false := by simpa using heq
              have HE := Lib.hid heq
              clear heq
              go_wp2_with (go_quiet (fail))
              go_roundw
              case rel => exact ⟨j + 1, by omega, by go_num, by
                rw [take_step HO1.out, List.map_append, List.mem_append]
                rintro (h | h)
                · exact HN.out h
                · simp at h
                  exact HE.out h.symm, by first | exact below_drewN hI _ | exact hI.drew⟩
              case measure => simp [intOf]; omega
          · obtain rfl : j = k := by omega
            go_wp2
            go_roundw
            case rel => exact ⟨j + 1, by omega, by go_num, by rw [take_step HO.out]; exact offs_snoc HK.out HD.out.symm HN.out, hI⟩
            case measure => simp [intOf]; omega
      · obtain rfl : v = false := by rw [HV.out]; exact offs_bad HO.out hd
        have HD := Lib.hid hd.symm
        clear hd
        go_wp2_with fail
        (with_reducible refine (roffer_is p s rk c false _ HD.out).mono ?_)
        rintro e w1 ⟨rfl, hb⟩
        go_wp2
        go_ret
        exact ⟨rfl, below_next hb hI hI.size⟩
    · obtain rfl : v = true := by
        have hkl : k = xs.length := by have := HX.out.1; omega
        have h := HK.out
        rw [hkl, List.take_length] at h
        rw [HV.out, h]
      go_wp2
      go_ret
      exact ⟨rfl, hI⟩

end Go.Proofs.Ytefnjhdmpnfacaa
