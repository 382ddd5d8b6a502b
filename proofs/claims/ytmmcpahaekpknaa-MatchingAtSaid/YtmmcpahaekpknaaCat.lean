/-
  The contract of matching.catalan.
-/
import Derived.Test.YtmmcpahaekpknaaBase
namespace Go.Proofs.Ytmmcpahaekpknaa
open Go.RowKit

def catN : Nat → Nat
  | 0 => 1
  | n + 1 => catN n * 2 * (2 * n + 1) / (n + 2)

theorem catN_small : ∀ n, n < 31 → 0 < catN n ∧ catN n * 2 * (2 * n + 1) < 4611686018427387904 := by decide +kernel

theorem cat_bounds {n : Nat} (h : n < 31) : 1 ≤ catN n ∧ catN n ≤ 4611686018427387904 ∧ catN n * 2 ≤ 4611686018427387904 ∧ catN n * 2 * (2 * n + 1) ≤ 4611686018427387904 := by
  obtain ⟨h0, h1⟩ := catN_small n h
  have h2 : catN n * 2 * 1 ≤ catN n * 2 * (2 * n + 1) := Nat.mul_le_mul_left _ (by omega)
  omega

set_option maxHeartbeats 400000 in
theorem catalan_any (n : Nat) (w : World) (hn : n ≤ 30) :
    Calls Try.prog 27 #[.int .i64 n] w fun e w' => e = .returned (.int .i64 (catN n)) ∧ w = w' := by
  go_enter Try.func27, Try.ntmps27
  go_wp2
  go_loop [3, 6] (fun c i => ∃ k : Nat, k ≤ n ∧ i = .int .i64 k ∧ c = .int .i64 (catN k)) (fun _ i => n - (intOf i).toNat)
  case atStart => exact ⟨0, Nat.zero_le _, rfl, rfl⟩
  case round =>
    obtain ⟨k, hk, rfl, rfl⟩ := hrel
    by_cases hlt : k < n
    · obtain ⟨b1, b2, b3, b4⟩ := cat_bounds (show k < 31 by omega)
      have c4 : (catN k : Int) * 2 * (2 * (k : Int) + 1) ≤ 4611686018427387904 := by
        have : ((catN k * 2 * (2 * k + 1) : Nat) : Int) ≤ 4611686018427387904 := by omega
        simpa using this
      have c5 : 0 ≤ (catN k : Int) * 2 * (2 * (k : Int) + 1) := by
        have : 0 ≤ ((catN k * 2 * (2 * k + 1) : Nat) : Int) := by omega
        simpa using this
      have e : ((catN (k + 1) : Nat) : Int) = (catN k : Int) * 2 * (2 * (k : Int) + 1) / ((k : Int) + 2) := by
        rw [catN]
        simp
      have E := Lib.hid e
      clear e b4
      go_wp2
      go_round
      case rel => exact ⟨k + 1, by omega, by go_num, by rw [E.out]⟩
      case measure => simp [intOf]; omega
    · have hk' : k = n := by omega
      have E := Lib.hid hk'
      clear hk'
      go_wp2
      go_ret
      exact ⟨ret_int (by rw [E.out]), by trivial⟩
end Go.Proofs.Ytmmcpahaekpknaa
