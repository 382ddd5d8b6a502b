/-
  The contracts of Turn and Opposite, and of the reference's Turn.
-/
import Derived.Test.YtaghemilihaiaaaLab
namespace Go.Proofs.Ytaghemilihaiaaa
open Go.RowKit

/-- the half-edge of the same crossing k slots further -/
def turnN (h k : Nat) : Nat := h - h % 4 + (h % 4 + k) % 4

theorem turnN_div (h k : Nat) : turnN h k / 4 = h / 4 := by unfold turnN; omega
theorem turnN_mod (h k : Nat) : turnN h k % 4 = (h % 4 + k) % 4 := by unfold turnN; omega
theorem turnN_add (h j k : Nat) : turnN (turnN h j) k = turnN h (j + k) := by
  have h1 := turnN_mod h j
  have h2 := turnN_div h j
  unfold turnN at h1 h2 ⊢
  omega
theorem turnN_lt {h k n : Nat} (hh : h < 4 * n) : turnN h k < 4 * n := by unfold turnN; omega
theorem turnN_zero (h : Nat) : turnN h 0 = h := by unfold turnN; omega
theorem turnN_four (h : Nat) : turnN h 4 = h := by unfold turnN; omega
theorem turnN_inj {a b k : Nat} (h : turnN a k = turnN b k) : a = b := by unfold turnN at h; omega

theorem turn_eq (h : Nat) (b : Int) : (h : Int) - (h : Int) % 4 + ((h : Int) % 4 + b.tmod 4 + 4) % 4 = (turnN h (b % 4).toNat : Int) := by
  have h1 := Int.tmod_eq_emod (a := b) (b := 4)
  unfold turnN
  have e : b.tmod 4 = b % 4 ∨ b.tmod 4 = b % 4 - 4 := by
    rw [h1]
    split <;> omega
  omega

theorem tmod4_bd (b : Int) : -3 ≤ b.tmod 4 ∧ b.tmod 4 ≤ 3 := by
  have h1 := Int.tmod_eq_emod (a := b) (b := 4)
  rw [h1]
  split
  · omega
  · rename_i h
    have h2 : ¬ (4 : Int) ∣ b := fun hd => h (.inr hd)
    have h3 : b % 4 ≠ 0 := fun e => h2 (Int.dvd_of_emod_eq_zero e)
    omega

set_option maxHeartbeats 400000 in
theorem turn_any (h : Nat) (b : Int) (w : World) (hh : h ≤ 1099511627776) :
    Calls Try.prog 66 #[.int .i64 h, .int .i64 b] w fun e w' => e = .returned (.int .i64 (turnN h (b % 4).toNat)) ∧ w = w' := by
  have hE := Lib.hid (turn_eq h b)
  have ht := tmod4_bd b
  go_enter Try.func66, Try.ntmps66
  go_wp2
  go_ret
  exact ⟨ret_int (by have := hE.out; omega), rfl⟩

/-- where the number is negative -/
theorem turn_neg (h b : Int) (w : World) (hh : h < 0) :
    Calls Try.prog 66 #[.int .i64 h, .int .i64 b] w fun e w' => e = .returned (.int .i64 (-1)) ∧ w = w' := by
  go_enter Try.func66, Try.ntmps66
  go_wp2
  go_ret
  exact ⟨rfl, rfl⟩

/-- with the operands as the caller has them -/
theorem turn_at {a b : Int} (h k : Nat) (w : World) (ha : a = h) (hh : h ≤ 1099511627776) (hk : (b % 4).toNat = k) :
    Calls Try.prog 66 #[.int .i64 a, .int .i64 b] w fun e w' => e = .returned (.int .i64 (turnN h k)) ∧ w = w' := by
  subst ha hk
  exact turn_any h b w hh

theorem opp_any {a : Int} (h : Nat) (w : World) (ha : a = h) (hh : h ≤ 1099511627776) :
    Calls Try.prog 78 #[.int .i64 a] w fun e w' => e = .returned (.int .i64 (turnN h 2)) ∧ w = w' := by
  subst ha
  go_enter Try.func78, Try.ntmps78
  go_wp2_with fail
  refine (turn_at h 2 _ rfl hh (by decide)).mono ?_
  rintro e w1 ⟨rfl, rfl⟩
  go_wp2_with fail
  go_ret
  exact ⟨rfl, rfl⟩
theorem opp_neg (h : Int) (w : World) (hh : h < 0) :
    Calls Try.prog 78 #[.int .i64 h] w fun e w' => e = .returned (.int .i64 (-1)) ∧ w = w' := by
  go_enter Try.func78, Try.ntmps78
  go_wp2_with fail
  refine (turn_neg h _ _ hh).mono ?_
  rintro e w1 ⟨rfl, rfl⟩
  go_wp2_with fail
  go_ret
  exact ⟨rfl, rfl⟩

set_option maxHeartbeats 400000 in
theorem rturn_at {a b : Int} (h k : Nat) (w : World) (ha : a = h) (hh : h ≤ 1099511627776) (hk : (b % 4).toNat = k) :
    Calls Try.prog 70 #[.int .i64 a, .int .i64 b] w fun e w' => e = .returned (.int .i64 (turnN h k)) ∧ w = w' := by
  subst ha hk
  have hE := Lib.hid (turn_eq h b)
  have ht := tmod4_bd b
  have e : ((h : Int) % 4 + b.tmod 4).tmod 4 + 4 = ((h : Int) % 4 + b.tmod 4).tmod 4 + 4 := rfl
  have ht2 := tmod4_bd ((h : Int) % 4 + b.tmod 4)
  have he2 : (((h : Int) % 4 + b.tmod 4).tmod 4 + 4) % 4 = ((h : Int) % 4 + b.tmod 4 + 4) % 4 := by
    rw [Int.tmod_eq_emod]
    split <;> omega
  have HE2 := Lib.hid he2
  clear he2 e
  go_enter Try.func70, Try.ntmps70
  go_wp2
  go_ret
  exact ⟨ret_int (by have := hE.out; have := HE2.out; omega), rfl⟩
theorem rturn_neg (h b : Int) (w : World) (hh : h < 0) :
    Calls Try.prog 70 #[.int .i64 h, .int .i64 b] w fun e w' => e = .returned (.int .i64 (-1)) ∧ w = w' := by
  go_enter Try.func70, Try.ntmps70
  go_wp2
  go_ret
  exact ⟨rfl, rfl⟩
end Go.Proofs.Ytaghemilihaiaaa

