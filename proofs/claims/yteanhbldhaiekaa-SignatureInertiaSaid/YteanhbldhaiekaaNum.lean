/-
  The contracts of mulMod, subMod, gcd, abs, inverse, and of the reference's Gcd, Abs.
-/
import Derived.Test.YteanhbldhaiekaaDiv
namespace Go.Proofs.Yteanhbldhaiekaa
open Go.RowKit

theorem hi_lo (a b : Nat) : a * b / 18446744073709551616 * 18446744073709551616 + a * b % 18446744073709551616 = a * b := by
  rw [Nat.mul_comm]; exact Nat.div_add_mod _ _
set_option maxHeartbeats 1000000 in
theorem mulmod_any (a b m : Nat) (ha : a < 18446744073709551616) (hb : b < 18446744073709551616) (hm : m < 18446744073709551616) (h0 : m ≠ 0) (w : World) :
    Calls Try.prog 67 #[.int .u64 a, .int .u64 b, .int .u64 m] w fun e w' => e = .returned (.int .u64 (a * b % m : Nat)) ∧ ∃ n, w' = w.drewN n := by
  have HA := Lib.hid ha
  have HB := Lib.hid hb
  have HM := Lib.hid hm
  have H0 := Lib.hid h0
  obtain ⟨h, hh⟩ : ∃ x, a * b / 18446744073709551616 = x := ⟨_, rfl⟩
  obtain ⟨l, hl⟩ : ∃ x, a * b % 18446744073709551616 = x := ⟨_, rfl⟩
  have HE := Lib.hid (hi_lo a b)
  rw [hh, hl] at HE
  have HL : Hid (l < 18446744073709551616) := by rw [← hl]; exact Nat.mod_lt _ (by decide)
  have HHH := Lib.hid hh
  have HLL := Lib.hid hl
  clear ha hb hm h0 hh hl
  go_enter Try.func67, Try.ntmps67
  go_wp2_with fail
  refine (mul64_any a b HA.out HB.out w).mono ?_
  rintro e w1 ⟨rfl, rfl⟩
  rw [HHH.out, HLL.out]
  go_wp2_with fail
  refine (rem64_any h l m HM.out H0.out HL.out w).mono ?_
  rintro e w1 ⟨rfl, n, hw⟩
  rw [HE.out]
  have HW := Lib.hid hw
  clear hw
  go_wp2_with fail
  go_ret
  exact ⟨rfl, n, HW.out⟩
/-- a difference below m -/
def subN (a b m : Nat) : Nat := if a < b then a + m - b else a - b
theorem subN_lt {a b m : Nat} (ha : a < m) (hb : b < m) : subN a b m < m := by have := ha; have := hb; unfold subN; split <;> omega
theorem subN_eq {a b m : Nat} (_ha : a < m) (_hb : b < m) : (m : Int) ∣ ((a : Int) - (b : Int)) - (subN a b m : Int) := by
  unfold subN
  split
  · exact ⟨-1, by omega⟩
  · exact ⟨0, by omega⟩
set_option maxHeartbeats 1000000 in
theorem submod_any (a b m : Nat) (ha : a < m) (hb : b < m) (hm : m ≤ 9223372036854775807) (w : World) :
    Calls Try.prog 68 #[.int .u64 a, .int .u64 b, .int .u64 m] w fun e w' => e = .returned (.int .u64 (subN a b m : Nat)) ∧ w = w' := by
  by_cases h : a < b
  · have e : subN a b m = a + m - b := if_pos h
    rw [e]
    obtain ⟨s, hs⟩ : ∃ s, a + m = s := ⟨_, rfl⟩
    obtain ⟨t, ht⟩ : ∃ t, a + m - b = t := ⟨_, rfl⟩
    have x1 : IntKind.u64.wrap ((a : Int) + (m : Int)) = (s : Int) := by rw [addN, hs]; exact wrapN _ (by omega)
    have x2 : IntKind.u64.wrap ((s : Int) - (b : Int)) = (t : Int) := by rw [show (s : Int) - (b : Int) = (t : Int) by omega]; exact wrapN _ (by omega)
    have z : decide (a < b) = true := decide_eq_true h
    rw [ht]
    clear ha hb hm e hs ht h
    go_enter Try.func68, Try.ntmps68
    go_wp2_with fail
    go_ret
    exact ⟨rfl, rfl⟩
  · have e : subN a b m = a - b := if_neg h
    rw [e]
    obtain ⟨t, ht⟩ : ∃ t, a - b = t := ⟨_, rfl⟩
    have x2 : IntKind.u64.wrap ((a : Int) - (b : Int)) = (t : Int) := by rw [show (a : Int) - (b : Int) = (t : Int) by omega]; exact wrapN _ (by omega)
    have z : decide (a < b) = false := decide_eq_false h
    rw [ht]
    clear ha hb hm e ht h
    go_enter Try.func68, Try.ntmps68
    go_wp2_with fail
    go_ret
    exact ⟨rfl, rfl⟩
theorem wabs_eq (x : Int) (h1 : -9223372036854775808 ≤ x) (h2 : x ≤ 9223372036854775807) : (x < 0 → IntKind.u64.wrap (wrap64 (-x)) = ((x.natAbs : Nat) : Int)) ∧ (0 ≤ x → IntKind.u64.wrap x = ((x.natAbs : Nat) : Int)) := by
  unfold wrap64
  rw [IntKind.wrap_u64, IntKind.wrap_u64]
  exact ⟨fun h => by omega, fun h => by omega⟩
set_option maxHeartbeats 1000000 in
theorem abs_any (x : Int) (h1 : -9223372036854775808 ≤ x) (h2 : x ≤ 9223372036854775807) (w : World) :
    Calls Try.prog 64 #[.int .i64 x] w fun e w' => e = .returned (.int .u64 (x.natAbs : Nat)) ∧ w = w' := by
  obtain ⟨e1, e2⟩ := wabs_eq x h1 h2
  by_cases h : x < 0
  · have z : decide (x < 0) = true := decide_eq_true h
    have E := Lib.hid (e1 h)
    clear h1 h2 h e1 e2
    go_enter Try.func64, Try.ntmps64
    go_wp2_with fail
    go_ret
    exact ⟨ret_int E.out, rfl⟩
  · have z : decide (x < 0) = false := decide_eq_false h
    have E := Lib.hid (e2 (by omega))
    clear h1 h2 h e1 e2
    go_enter Try.func64, Try.ntmps64
    go_wp2_with fail
    go_ret
    exact ⟨ret_int E.out, rfl⟩
/-- the great prime -/
def PM : Nat := 2305843009213693951
def EX : Nat := 2305843009213693949
def invN (a : Nat) : Nat := 1 * a ^ EX % PM
theorem inv_step {r a e T : Nat} (h : r * a ^ e % PM = T) : (e % 2 = 1 → (r * a % PM) * (a * a % PM) ^ (e / 2) % PM = T) ∧ (e % 2 = 0 → r * (a * a % PM) ^ (e / 2) % PM = T) := by
  have key : ∀ x, x * (a * a % PM) ^ (e / 2) % PM = x * a ^ (2 * (e / 2)) % PM := by
    intro x
    rw [Nat.mul_mod, ← Nat.pow_mod, ← Nat.mul_mod, Nat.mul_pow, ← Nat.pow_add, Nat.two_mul]
  refine ⟨fun h1 => ?_, fun h0 => ?_⟩
  · rw [key, Nat.mod_mul_mod, Nat.mul_assoc, ← Nat.pow_succ', ← h]
    congr 3; omega
  · rw [key, ← h]
    congr 3; omega
set_option maxHeartbeats 2000000 in
theorem inverse_any (A : Nat) (hA : A < PM) (w : World) :
    Calls Try.prog 69 #[.int .u64 A] w fun e w' => e = .returned (.int .u64 (invN A : Nat)) ∧ ∃ n, w' = w.drewN n := by
  obtain ⟨T, hT⟩ : ∃ t, invN A = t := ⟨_, rfl⟩
  rw [hT]
  have hT' : 1 * A ^ EX % PM = T := hT
  have K0 : Hid (1 * A ^ EX % PM = T ∧ 1 < PM ∧ A < PM) := Lib.hid ⟨hT', by decide, hA⟩
  have HEX : Hid (EX = 2305843009213693949) := Lib.hid rfl
  clear hT hT' hA
  go_enter Try.func69, Try.ntmps69
  go_wp2_with fail
  go_loopw [0, 3, 4] (fun a' r' e' wr => ∃ (a r e : Nat), a' = .int .u64 a ∧ r' = .int .u64 r ∧ e' = .int .u64 e ∧ Hid (r * a ^ e % PM = T ∧ r < PM ∧ a < PM) ∧ Hid (e ≤ EX) ∧ Hid (∃ n, wr = w.drewN n)) (fun _ _ e' _ => (intOf e').toNat)
  case atStart => exact ⟨A, 1, EX, rfl, rfl, rfl, K0, Nat.le_refl _, ⟨0, rfl⟩⟩
  case round =>
    clear K0
    obtain ⟨a, r, e, rfl, rfl, rfl, HI, HE, HW⟩ := hrel
    have hel := HE.out
    have hex := HEX.out
    by_cases h0 : e = 0
    · subst h0
      have HX : Hid (r = T) := by
        obtain ⟨h1, h2, -⟩ := HI.out
        rw [Nat.pow_zero, Nat.mul_one, Nat.mod_eq_of_lt h2] at h1
        exact Lib.hid h1
      clear HI hel hex
      go_wp2_with fail
      go_ret
      rw [← HX.out]
      exact ⟨rfl, HW.out⟩
    · obtain ⟨i1, i2, i3⟩ := HI.out
      have hpm : PM = 2305843009213693951 := rfl
      have z : decide (0 < e) = true := decide_eq_true (by omega)
      have z' : 0 < e := by omega
      have zb : bits .and .u64 (e : Int) 1 = ((e % 2 : Nat) : Int) := by
        have h := bits_and_u64_nat e 1 (by omega) (by omega)
        rw [Nat.and_one_is_mod] at h
        exact h
      obtain ⟨e2, he2⟩ : ∃ x, e / 2 = x := ⟨_, rfl⟩
      have ze : (e : Int) / 2 = (e2 : Int) := by omega
      have HE2 : Hid (e2 ≤ EX) := Lib.hid (by omega)
      have hlt : e2 < e := by omega
      have HLT := Lib.hid hlt
      have hst := inv_step i1
      rw [he2] at hst
      have HA := Lib.hid (show a < 18446744073709551616 by omega)
      have HR := Lib.hid (show r < 18446744073709551616 by omega)
      obtain ⟨aa, haa⟩ : ∃ x, a * a % PM = x := ⟨_, rfl⟩
      rw [haa] at hst
      have HAA := Lib.hid haa
      have haal : aa < PM := by rw [← haa]; exact Nat.mod_lt _ (by decide)
      have hcase : e % 2 = 0 ∨ e % 2 = 1 := by omega
      clear hpm hex
      rcases hcase with hbt | hbt
      · have HI' : Hid (r * aa ^ e2 % PM = T ∧ r < PM ∧ aa < PM) := Lib.hid ⟨hst.2 hbt, i2, haal⟩
        have zb0 : bits .and .u64 (e : Int) 1 = 0 := by rw [zb, hbt]; rfl
        clear hst i1 i2 i3 haa haal hbt he2 hlt hel h0 HI zb
        go_wp2_with fail
        refine (mulmod_any a a PM HA.out HA.out (by decide) (by decide) wr).mono ?_
        rintro e9 w1 ⟨rfl, n1, hw⟩
        rw [HAA.out]
        have HW' : Hid (∃ n, w1 = w.drewN n) := by
          obtain ⟨n, e⟩ := HW.out
          exact Lib.hid ⟨n + n1, by rw [hw, e, drewN2]⟩
        clear hw HW
        go_wp2_with fail
        go_roundw
        case rel => exact ⟨aa, r, e2, rfl, rfl, rfl, HI', HE2, HW'⟩
        case measure => have := HLT.out; simp [intOf]; omega
      · obtain ⟨ra, hra⟩ : ∃ x, r * a % PM = x := ⟨_, rfl⟩
        have HRA := Lib.hid hra
        rw [hra] at hst
        have hral : ra < PM := by rw [← hra]; exact Nat.mod_lt _ (by decide)
        have HI' : Hid (ra * aa ^ e2 % PM = T ∧ ra < PM ∧ aa < PM) := Lib.hid ⟨hst.1 hbt, hral, haal⟩
        have zb0 : bits .and .u64 (e : Int) 1 = 1 := by rw [zb, hbt]; rfl
        clear hst i1 i2 i3 haa haal hbt he2 hlt hel h0 HI zb hra hral
        go_wp2_with fail
        refine (mulmod_any r a PM HR.out HA.out (by decide) (by decide) wr).mono ?_
        rintro e9 w1 ⟨rfl, n1, hw1⟩
        rw [HRA.out]
        have HW1 : Hid (∃ n, w1 = w.drewN n) := by
          obtain ⟨n, e⟩ := HW.out
          exact Lib.hid ⟨n + n1, by rw [hw1, e, drewN2]⟩
        clear hw1 HW
        go_wp2_with fail
        refine (mulmod_any a a PM HA.out HA.out (by decide) (by decide) w1).mono ?_
        rintro e9 w2 ⟨rfl, n2, hw2⟩
        rw [HAA.out]
        have HW2 : Hid (∃ n, w2 = w.drewN n) := by
          obtain ⟨n, e⟩ := HW1.out
          exact Lib.hid ⟨n + n2, by rw [hw2, e, drewN2]⟩
        clear hw2 HW1
        go_wp2_with fail
        go_roundw
        case rel => exact ⟨aa, ra, e2, rfl, rfl, rfl, HI', HE2, HW2⟩
        case measure => have := HLT.out; simp [intOf]; omega
end Go.Proofs.Yteanhbldhaiekaa

