/-
  A slice of integers that came in, as the law's frame tells it, reads as a list.
  The contracts of the bits' functions: Mul64, Len64.
-/
import Derived.Test.YteanhbldhaiekaaZ01
import Derived.OpenShut
import Derived.Lib.Mul64
import Derived.Laws.Bits64b
import Derived.IntWalk
namespace Go.Proofs.Yteanhbldhaiekaa
open Go.RowKit

theorem row_RI {w : World} {a : Option Addr} {len cap : Nat} {zs : List Int}
    (h : (a = none ∧ len = 0 ∧ cap = 0 ∧ zs = []) ∨ ∃ x, a = some x ∧ len ≤ cap ∧ cap ≤ maxLen ∧ zs.length = cap ∧ (∀ i, i < zs.length → w.cell? (x.add i) = some (.int .i64 (zs.getD i 0))) ∧ ∀ n ∈ zs, (Lit.int .i64 n).wf = true) :
    ∃ xs : List Int, xs.length = len ∧ RI w (· < w.heap.size) a xs ∧ len ≤ maxLen ∧ ∀ k, -9223372036854775808 ≤ gi xs k ∧ gi xs k ≤ 9223372036854775807 := by
  rcases h with ⟨rfl, rfl, rfl, rfl⟩ | ⟨x, rfl, hl, hm, hz, hc, hw⟩
  · exact ⟨[], rfl, RI.nil, Nat.zero_le _, fun k => by simp [gi]⟩
  · refine ⟨zs.take len, by simp; omega, fun hne => ?_, by omega, fun k => ?_⟩
    · have hpos : 0 < zs.length := by
        rcases Nat.eq_zero_or_pos zs.length with h0 | h0
        · have : zs = [] := List.eq_nil_of_length_eq_zero h0
          subst this
          simp at hne
        · exact h0
      obtain ⟨b, off, rfl, hc'⟩ := ints_at hc hpos
      refine ⟨b, off, rfl, World.block_lt_of_cell? _ _ (hc' 0 hpos), fun k hk => ?_⟩
      have hk' : k < len := by simp at hk; omega
      rw [hc' k (by omega)]
      simp [gi, hk']
    · by_cases hk : k < (zs.take len).length
      · rw [gi_lt hk]
        have hmem : (zs.take len)[k] ∈ zs := List.mem_of_mem_take (List.getElem_mem hk)
        have h := hw _ hmem
        have hmin : IntKind.i64.min = -9223372036854775808 := rfl
        have hmax : IntKind.i64.max = 9223372036854775807 := rfl
        simp only [Lit.wf, Bool.and_eq_true, decide_eq_true_eq] at h
        omega
      · have : gi (zs.take len) k = 0 := by
          unfold gi
          rw [List.getD_eq_getElem?_getD, List.getElem?_eq_none (by omega)]
          rfl
        omega
end Go.Proofs.Yteanhbldhaiekaa
namespace Go.Proofs.Yteanhbldhaiekaa
open Go.RowKit

theorem maskN (a : Nat) (ha : a < 18446744073709551616) : bits .and .u64 (a : Int) 4294967295 = ((a % 4294967296 : Nat) : Int) := by
  have h := bits_and_u64_nat a 4294967295 ha (by omega)
  have e : a &&& 4294967295 = a % 4294967296 := Nat.and_two_pow_sub_one_eq_mod a 32
  rw [e] at h
  exact h
theorem divN (a : Nat) : (a : Int) / 4294967296 = ((a / 4294967296 : Nat) : Int) := by omega
theorem mulN (a b : Nat) : (a : Int) * (b : Int) = ((a * b : Nat) : Int) := (Int.natCast_mul a b).symm
theorem addN (a b : Nat) : (a : Int) + (b : Int) = ((a + b : Nat) : Int) := (Int.natCast_add a b).symm
theorem wrapN (a : Nat) (ha : a < 18446744073709551616) : IntKind.u64.wrap (a : Int) = (a : Int) := by rw [IntKind.wrap_u64]; omega
theorem wrapM (a : Nat) : IntKind.u64.wrap (a : Int) = ((a % 18446744073709551616 : Nat) : Int) := by rw [IntKind.wrap_u64]; omega

set_option maxHeartbeats 1000000 in
theorem mul64_any (x y : Nat) (hx : x < 18446744073709551616) (hy : y < 18446744073709551616) (w : World) :
    Calls Try.prog 71 #[.int .u64 x, .int .u64 y] w fun e w' => e = .returned (.tuple #[.int .u64 ((x * y / 18446744073709551616 : Nat) : Int), .int .u64 ((x * y % 18446744073709551616 : Nat) : Int)]) ∧ w = w' := by
  obtain ⟨bd, bt, bw, hhi⟩ := Lib.mul64_hi x y hx hy
  have ba := Lib.half_mul_le (a := x / 4294967296) (b := y / 4294967296) (by omega) (by omega)
  have bb := Lib.half_mul_le (a := x / 4294967296) (b := y % 4294967296) (by omega) (by omega)
  have bc := Lib.half_mul_le (a := x % 4294967296) (b := y / 4294967296) (by omega) (by omega)
  have ba' : x / 4294967296 * (y / 4294967296) < 18446744073709551616 := by omega
  have bb' : x / 4294967296 * (y % 4294967296) < 18446744073709551616 := by omega
  have bc' : x % 4294967296 * (y / 4294967296) < 18446744073709551616 := by omega
  have bh1 : x / 4294967296 * (y / 4294967296) + (x / 4294967296 * (y % 4294967296) + x % 4294967296 * (y % 4294967296) / 4294967296) / 4294967296 < 18446744073709551616 := by omega
  have bh : x / 4294967296 * (y / 4294967296) + (x / 4294967296 * (y % 4294967296) + x % 4294967296 * (y % 4294967296) / 4294967296) / 4294967296 + ((x / 4294967296 * (y % 4294967296) + x % 4294967296 * (y % 4294967296) / 4294967296) % 4294967296 + x % 4294967296 * (y / 4294967296)) / 4294967296 < 18446744073709551616 := by omega
  go_enter Try.func71, Try.ntmps71
  go_wp2
  simp only [maskN x hx, maskN y hy, divN, mulN, addN, wrapN _ bd, wrapN _ bb', wrapN _ bt, maskN _ bt, wrapN _ bc', wrapN _ bw, wrapN _ ba', wrapN _ bh1, wrapN _ bh, wrapM (x * y)]
  rw [hhi]
  go_ret2
  exact ⟨rfl, rfl⟩
/-- n is the length of x -/
def LenB (x n : Nat) : Prop := n ≤ 64 ∧ x < 2 ^ n ∧ (x ≠ 0 → 1 ≤ n ∧ 2 ^ (n - 1) ≤ x)
set_option maxRecDepth 100000 in
def tab8 : ByteArray := ⟨#[0, 1, 2, 2, 3, 3, 3, 3, 4, 4, 4, 4, 4, 4, 4, 4, 5, 5, 5, 5, 5, 5, 5, 5, 5, 5, 5, 5, 5, 5, 5, 5, 6, 6, 6, 6, 6, 6, 6, 6, 6, 6, 6, 6, 6, 6, 6, 6, 6, 6, 6, 6, 6, 6, 6, 6, 6, 6, 6, 6, 6, 6, 6, 6, 7, 7, 7, 7, 7, 7, 7, 7, 7, 7, 7, 7, 7, 7, 7, 7, 7, 7, 7, 7, 7, 7, 7, 7, 7, 7, 7, 7, 7, 7, 7, 7, 7, 7, 7, 7, 7, 7, 7, 7, 7, 7, 7, 7, 7, 7, 7, 7, 7, 7, 7, 7, 7, 7, 7, 7, 7, 7, 7, 7, 7, 7, 7, 7, 8, 8, 8, 8, 8, 8, 8, 8, 8, 8, 8, 8, 8, 8, 8, 8, 8, 8, 8, 8, 8, 8, 8, 8, 8, 8, 8, 8, 8, 8, 8, 8, 8, 8, 8, 8, 8, 8, 8, 8, 8, 8, 8, 8, 8, 8, 8, 8, 8, 8, 8, 8, 8, 8, 8, 8, 8, 8, 8, 8, 8, 8, 8, 8, 8, 8, 8, 8, 8, 8, 8, 8, 8, 8, 8, 8, 8, 8, 8, 8, 8, 8, 8, 8, 8, 8, 8, 8, 8, 8, 8, 8, 8, 8, 8, 8, 8, 8, 8, 8, 8, 8, 8, 8, 8, 8, 8, 8, 8, 8, 8, 8, 8, 8, 8, 8, 8, 8, 8, 8, 8, 8, 8, 8, 8, 8, 8, 8]⟩
set_option maxRecDepth 100000 in
theorem tab8_len : ∀ x, (h : x < 256) → (tab8[x]'h).toNat ≤ 8 ∧ x < 2 ^ (tab8[x]'h).toNat ∧ (x ≠ 0 → 1 ≤ (tab8[x]'h).toNat ∧ 2 ^ ((tab8[x]'h).toNat - 1) ≤ x) := by decide +kernel
theorem wr64_s (t : Int) (h0 : 0 ≤ t) (h : t ≤ 1000) : wrap64 t = t := by unfold wrap64; omega
set_option maxRecDepth 100000 in
set_option maxHeartbeats 4000000 in
theorem len64_000 (x : Nat) (w : World) (g1 : decide ((4294967296 : Int) ≤ x) = false) (g2 : decide ((65536 : Int) ≤ x) = false) (g3 : decide ((256 : Int) ≤ x) = false) (h : x < 256) :
    Calls Try.prog 85 #[.int .u64 x] w fun e w' => e = .returned (.int .i64 ((0 + (tab8[x]'h).toNat : Nat) : Int)) ∧ w = w' := by
  have ht := (tab8_len x h).1
  go_enter Try.func85, Try.ntmps85
  go_wp2_with fail
  go_ret
  refine ⟨ret_int ?_, rfl⟩
  show wrap64 (wrap64 ((tab8[x]'h).toNat : Int)) = _
  rw [wr64_s ((tab8[x]'h).toNat : Int) (by omega) (by omega), wr64_s _ (by omega) (by omega)]
  omega
set_option maxRecDepth 100000 in
set_option maxHeartbeats 4000000 in
theorem len64_001 (x x3 : Nat) (w : World) (g1 : decide ((4294967296 : Int) ≤ x) = false) (g2 : decide ((65536 : Int) ≤ x) = false) (g3 : decide ((256 : Int) ≤ x) = true) (e3 : (x : Int) / 256 = x3) (h : x3 < 256) :
    Calls Try.prog 85 #[.int .u64 x] w fun e w' => e = .returned (.int .i64 ((8 + (tab8[x3]'h).toNat : Nat) : Int)) ∧ w = w' := by
  have ht := (tab8_len x3 h).1
  go_enter Try.func85, Try.ntmps85
  go_wp2_with fail
  go_ret
  refine ⟨ret_int ?_, rfl⟩
  show wrap64 (8 + wrap64 ((tab8[x3]'h).toNat : Int)) = _
  rw [wr64_s ((tab8[x3]'h).toNat : Int) (by omega) (by omega), wr64_s _ (by omega) (by omega)]
  omega
set_option maxRecDepth 100000 in
set_option maxHeartbeats 4000000 in
theorem len64_010 (x x2 : Nat) (w : World) (g1 : decide ((4294967296 : Int) ≤ x) = false) (g2 : decide ((65536 : Int) ≤ x) = true) (e2 : (x : Int) / 65536 = x2) (g3 : decide ((256 : Int) ≤ x2) = false) (h : x2 < 256) :
    Calls Try.prog 85 #[.int .u64 x] w fun e w' => e = .returned (.int .i64 ((16 + (tab8[x2]'h).toNat : Nat) : Int)) ∧ w = w' := by
  have ht := (tab8_len x2 h).1
  go_enter Try.func85, Try.ntmps85
  go_wp2_with fail
  go_ret
  refine ⟨ret_int ?_, rfl⟩
  show wrap64 (16 + wrap64 ((tab8[x2]'h).toNat : Int)) = _
  rw [wr64_s ((tab8[x2]'h).toNat : Int) (by omega) (by omega), wr64_s _ (by omega) (by omega)]
  omega
set_option maxRecDepth 100000 in
set_option maxHeartbeats 4000000 in
theorem len64_011 (x x2 x3 : Nat) (w : World) (g1 : decide ((4294967296 : Int) ≤ x) = false) (g2 : decide ((65536 : Int) ≤ x) = true) (e2 : (x : Int) / 65536 = x2) (g3 : decide ((256 : Int) ≤ x2) = true) (e3 : (x2 : Int) / 256 = x3) (h : x3 < 256) :
    Calls Try.prog 85 #[.int .u64 x] w fun e w' => e = .returned (.int .i64 ((24 + (tab8[x3]'h).toNat : Nat) : Int)) ∧ w = w' := by
  have ht := (tab8_len x3 h).1
  go_enter Try.func85, Try.ntmps85
  go_wp2_with fail
  go_ret
  refine ⟨ret_int ?_, rfl⟩
  show wrap64 (24 + wrap64 ((tab8[x3]'h).toNat : Int)) = _
  rw [wr64_s ((tab8[x3]'h).toNat : Int) (by omega) (by omega), wr64_s _ (by omega) (by omega)]
  omega
set_option maxRecDepth 100000 in
set_option maxHeartbeats 4000000 in
theorem len64_100 (x x1 : Nat) (w : World) (g1 : decide ((4294967296 : Int) ≤ x) = true) (e1 : (x : Int) / 4294967296 = x1) (g2 : decide ((65536 : Int) ≤ x1) = false) (g3 : decide ((256 : Int) ≤ x1) = false) (h : x1 < 256) :
    Calls Try.prog 85 #[.int .u64 x] w fun e w' => e = .returned (.int .i64 ((32 + (tab8[x1]'h).toNat : Nat) : Int)) ∧ w = w' := by
  have ht := (tab8_len x1 h).1
  go_enter Try.func85, Try.ntmps85
  go_wp2_with fail
  go_ret
  refine ⟨ret_int ?_, rfl⟩
  show wrap64 (32 + wrap64 ((tab8[x1]'h).toNat : Int)) = _
  rw [wr64_s ((tab8[x1]'h).toNat : Int) (by omega) (by omega), wr64_s _ (by omega) (by omega)]
  omega
set_option maxRecDepth 100000 in
set_option maxHeartbeats 4000000 in
theorem len64_101 (x x1 x3 : Nat) (w : World) (g1 : decide ((4294967296 : Int) ≤ x) = true) (e1 : (x : Int) / 4294967296 = x1) (g2 : decide ((65536 : Int) ≤ x1) = false) (g3 : decide ((256 : Int) ≤ x1) = true) (e3 : (x1 : Int) / 256 = x3) (h : x3 < 256) :
    Calls Try.prog 85 #[.int .u64 x] w fun e w' => e = .returned (.int .i64 ((40 + (tab8[x3]'h).toNat : Nat) : Int)) ∧ w = w' := by
  have ht := (tab8_len x3 h).1
  go_enter Try.func85, Try.ntmps85
  go_wp2_with fail
  go_ret
  refine ⟨ret_int ?_, rfl⟩
  show wrap64 (40 + wrap64 ((tab8[x3]'h).toNat : Int)) = _
  rw [wr64_s ((tab8[x3]'h).toNat : Int) (by omega) (by omega), wr64_s _ (by omega) (by omega)]
  omega
set_option maxRecDepth 100000 in
set_option maxHeartbeats 4000000 in
theorem len64_110 (x x1 x2 : Nat) (w : World) (g1 : decide ((4294967296 : Int) ≤ x) = true) (e1 : (x : Int) / 4294967296 = x1) (g2 : decide ((65536 : Int) ≤ x1) = true) (e2 : (x1 : Int) / 65536 = x2) (g3 : decide ((256 : Int) ≤ x2) = false) (h : x2 < 256) :
    Calls Try.prog 85 #[.int .u64 x] w fun e w' => e = .returned (.int .i64 ((48 + (tab8[x2]'h).toNat : Nat) : Int)) ∧ w = w' := by
  have ht := (tab8_len x2 h).1
  go_enter Try.func85, Try.ntmps85
  go_wp2_with fail
  go_ret
  refine ⟨ret_int ?_, rfl⟩
  show wrap64 (48 + wrap64 ((tab8[x2]'h).toNat : Int)) = _
  rw [wr64_s ((tab8[x2]'h).toNat : Int) (by omega) (by omega), wr64_s _ (by omega) (by omega)]
  omega
set_option maxRecDepth 100000 in
set_option maxHeartbeats 4000000 in
theorem len64_111 (x x1 x2 x3 : Nat) (w : World) (g1 : decide ((4294967296 : Int) ≤ x) = true) (e1 : (x : Int) / 4294967296 = x1) (g2 : decide ((65536 : Int) ≤ x1) = true) (e2 : (x1 : Int) / 65536 = x2) (g3 : decide ((256 : Int) ≤ x2) = true) (e3 : (x2 : Int) / 256 = x3) (h : x3 < 256) :
    Calls Try.prog 85 #[.int .u64 x] w fun e w' => e = .returned (.int .i64 ((56 + (tab8[x3]'h).toNat : Nat) : Int)) ∧ w = w' := by
  have ht := (tab8_len x3 h).1
  go_enter Try.func85, Try.ntmps85
  go_wp2_with fail
  go_ret
  refine ⟨ret_int ?_, rfl⟩
  show wrap64 (56 + wrap64 ((tab8[x3]'h).toNat : Int)) = _
  rw [wr64_s ((tab8[x3]'h).toNat : Int) (by omega) (by omega), wr64_s _ (by omega) (by omega)]
  omega
theorem pow_up {x y k n : Nat} (hk : y = x / 2 ^ k) (h1 : y < 2 ^ n) (h2 : y ≠ 0 → 1 ≤ n ∧ 2 ^ (n - 1) ≤ y) (h0 : 2 ^ k ≤ x) (hn : k + n ≤ 64) : LenB x (k + n) := by
  have hp : 0 < 2 ^ k := Nat.pow_pos (by decide)
  have hy : y ≠ 0 := by
    rw [hk]
    have := Nat.div_pos h0 hp
    omega
  obtain ⟨a, b⟩ := h2 hy
  have hmul := Nat.div_add_mod x (2 ^ k)
  have hlt := Nat.mod_lt x hp
  rw [← hk] at hmul
  refine ⟨hn, ?_, fun _ => ⟨by omega, ?_⟩⟩
  · rw [Nat.pow_add]
    have : 2 ^ k * (y + 1) ≤ 2 ^ k * 2 ^ n := Nat.mul_le_mul_left _ h1
    rw [Nat.mul_succ] at this
    omega
  · rw [show k + n - 1 = k + (n - 1) by omega, Nat.pow_add]
    have := Nat.mul_le_mul_left (2 ^ k) b
    omega
theorem len64_any (x : Nat) (hx : x < 18446744073709551616) (w : World) : Calls Try.prog 85 #[.int .u64 x] w fun e w' => ∃ n : Nat, e = .returned (.int .i64 n) ∧ LenB x n ∧ w = w' := by
  by_cases h1 : 4294967296 ≤ x
  · by_cases h2 : 65536 ≤ (x / 4294967296)
    · by_cases h3 : 256 ≤ ((x / 4294967296) / 65536)
      · have ht := tab8_len (((x / 4294967296) / 65536) / 256) (by omega)
        refine (len64_111 x (x / 4294967296) ((x / 4294967296) / 65536) (((x / 4294967296) / 65536) / 256) w (decide_eq_true (by omega)) (by omega) (decide_eq_true (by omega)) (by omega) (decide_eq_true (by omega)) (by omega) (by omega)).mono ?_
        rintro e w' ⟨rfl, rfl⟩
        exact ⟨_, rfl, pow_up (k := 56) (y := (((x / 4294967296) / 65536) / 256)) (by omega) ht.2.1 ht.2.2 (by omega) (by omega), rfl⟩
      · have ht := tab8_len ((x / 4294967296) / 65536) (by omega)
        refine (len64_110 x (x / 4294967296) ((x / 4294967296) / 65536) w (decide_eq_true (by omega)) (by omega) (decide_eq_true (by omega)) (by omega) (decide_eq_false (by omega)) (by omega)).mono ?_
        rintro e w' ⟨rfl, rfl⟩
        exact ⟨_, rfl, pow_up (k := 48) (y := ((x / 4294967296) / 65536)) (by omega) ht.2.1 ht.2.2 (by omega) (by omega), rfl⟩
    · by_cases h3 : 256 ≤ (x / 4294967296)
      · have ht := tab8_len ((x / 4294967296) / 256) (by omega)
        refine (len64_101 x (x / 4294967296) ((x / 4294967296) / 256) w (decide_eq_true (by omega)) (by omega) (decide_eq_false (by omega)) (decide_eq_true (by omega)) (by omega) (by omega)).mono ?_
        rintro e w' ⟨rfl, rfl⟩
        exact ⟨_, rfl, pow_up (k := 40) (y := ((x / 4294967296) / 256)) (by omega) ht.2.1 ht.2.2 (by omega) (by omega), rfl⟩
      · have ht := tab8_len (x / 4294967296) (by omega)
        refine (len64_100 x (x / 4294967296) w (decide_eq_true (by omega)) (by omega) (decide_eq_false (by omega)) (decide_eq_false (by omega)) (by omega)).mono ?_
        rintro e w' ⟨rfl, rfl⟩
        exact ⟨_, rfl, pow_up (k := 32) (y := (x / 4294967296)) (by omega) ht.2.1 ht.2.2 (by omega) (by omega), rfl⟩
  · by_cases h2 : 65536 ≤ x
    · by_cases h3 : 256 ≤ (x / 65536)
      · have ht := tab8_len ((x / 65536) / 256) (by omega)
        refine (len64_011 x (x / 65536) ((x / 65536) / 256) w (decide_eq_false (by omega)) (decide_eq_true (by omega)) (by omega) (decide_eq_true (by omega)) (by omega) (by omega)).mono ?_
        rintro e w' ⟨rfl, rfl⟩
        exact ⟨_, rfl, pow_up (k := 24) (y := ((x / 65536) / 256)) (by omega) ht.2.1 ht.2.2 (by omega) (by omega), rfl⟩
      · have ht := tab8_len (x / 65536) (by omega)
        refine (len64_010 x (x / 65536) w (decide_eq_false (by omega)) (decide_eq_true (by omega)) (by omega) (decide_eq_false (by omega)) (by omega)).mono ?_
        rintro e w' ⟨rfl, rfl⟩
        exact ⟨_, rfl, pow_up (k := 16) (y := (x / 65536)) (by omega) ht.2.1 ht.2.2 (by omega) (by omega), rfl⟩
    · by_cases h3 : 256 ≤ x
      · have ht := tab8_len (x / 256) (by omega)
        refine (len64_001 x (x / 256) w (decide_eq_false (by omega)) (decide_eq_false (by omega)) (decide_eq_true (by omega)) (by omega) (by omega)).mono ?_
        rintro e w' ⟨rfl, rfl⟩
        exact ⟨_, rfl, pow_up (k := 8) (y := (x / 256)) (by omega) ht.2.1 ht.2.2 (by omega) (by omega), rfl⟩
      · have ht := tab8_len x (by omega)
        refine (len64_000 x w (decide_eq_false (by omega)) (decide_eq_false (by omega)) (decide_eq_false (by omega)) (by omega)).mono ?_
        rintro e w' ⟨rfl, rfl⟩
        exact ⟨_, rfl, ⟨by omega, by rw [Nat.zero_add]; exact ht.2.1, fun h => by rw [Nat.zero_add]; exact ht.2.2 h⟩, rfl⟩
end Go.Proofs.Yteanhbldhaiekaa
