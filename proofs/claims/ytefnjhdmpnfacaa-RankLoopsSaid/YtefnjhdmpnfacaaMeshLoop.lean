/- Contract of the mesh's loop: where each parent is nearer by some measure no loop is found. -/
import Derived.Test.YtefnjhdmpnfacaaMeshMem
import Derived.Test.YtefnjhdmpnfacaaOffers
namespace Go.Proofs.Ytefnjhdmpnfacaa
open Go.RowKit

set_option maxHeartbeats 2000000 in
theorem mloop_is {w : World} {B mb R T H cR cT cH n : Nat} {tv hv : Nat → Value} {lab : Nat → Nat} {G : Nat → Prop} {m : St} {f : Nat → Nat} (hM : Mesh w B mb R T H cR cT cH n tv hv lab G m) (hd : Down n m f) (hn : 2 ≤ n) (hn8 : n ≤ 8) :
    Calls Try.prog 29 #[.pointer (some ⟨mb, 0, none⟩)] w fun e w' => e = .returned (.bool false) ∧ w = w' := by
  have c0 := hM.s0.cell
  have HM := Lib.hid hM
  have HD := Lib.hid hd
  clear hM hd
  go_enter Try.func29, Try.ntmps29
  go_wp2_with fail
  go_loop [10] (fun i => ∃ k : Nat, k ≤ n ∧ i = .int .i64 k) (fun i => n - (intOf i).toNat)
  case atStart => exact ⟨0, by omega, rfl⟩
  case round =>
    obtain ⟨k, hk, rfl⟩ := hrel
    by_cases hlt : k < n
    · go_wp2_with fail
      go_loop [4, 19] (fun a t => ∃ (j q : Nat), j ≤ n ∧ q < n ∧ f q + j < n ∧ t = .int .i64 j ∧ a = .int .i64 q) (fun _ t => n - (intOf t).toNat)
      case atStart => exact ⟨0, k, by omega, hlt, by have := HD.out.lt k hlt; omega, rfl, rfl⟩
      case round =>
        obtain ⟨j, q, hj, hq, hfq, rfl, rfl⟩ := hrel
        have hjn : j < n := by omega
        have c4 := (HM.out.rt q hq).c4.cell
        have hq0 : (0 : Int) ≤ (q : Int) := Int.natCast_nonneg _
        have hq1 : (q : Int) < (n : Int) := by omega
        rcases HD.out.par q hq with hp | ⟨p, hp1, hp2, hp3⟩
        · rw [hp] at c4
          clear hp
          go_wp2
          go_round
          case rel => exact ⟨k + 1, by omega, by go_num⟩
          case measure => simp [intOf]; omega
        · rw [hp2] at c4
          clear hp2
          have hp0 : (0 : Int) ≤ (p : Int) := Int.natCast_nonneg _
          have hp4 : ¬ (p : Int) < 0 := by omega
          have hp5 : ¬ (n : Int) ≤ (p : Int) := by omega
          go_wp2
          go_round
          case rel => exact ⟨j + 1, p, by omega, hp1, by omega, by go_num, rfl⟩
          case measure => simp [intOf]; omega
    · go_wp2
      go_ret
      exact ⟨rfl, rfl⟩

end Go.Proofs.Ytefnjhdmpnfacaa
