/-
  The contracts of LeadingZeros64, Div64, Rem64.
-/
import Derived.Test.YteanhbldhaiekaaZ02
import Derived.Deep.DeepCutAuto
import Derived.Deep.CutBlock
import Derived.Lib.Hide
namespace Go.Proofs.Yteanhbldhaiekaa
open Go.RowKit

theorem lz64_any (x : Nat) (hx : x < 18446744073709551616) (h0 : x ≠ 0) (w : World) : Calls Try.prog 79 #[.int .u64 x] w fun e w' => ∃ s : Nat, e = .returned (.int .i64 s) ∧ s ≤ 63 ∧ x * 2 ^ s < 18446744073709551616 ∧ 9223372036854775808 ≤ x * 2 ^ s ∧ w = w' := by
  have HX := Lib.hid hx
  have H0 := Lib.hid h0
  clear hx h0
  go_enter Try.func79, Try.ntmps79
  go_wp2_with fail
  refine (len64_any x HX.out w).mono ?_
  rintro e w1 ⟨n, rfl, ⟨h1, h2, h3⟩, rfl⟩
  obtain ⟨a, b⟩ := h3 H0.out
  have hp : 2 ^ n * 2 ^ (64 - n) = 18446744073709551616 := by rw [← Nat.pow_add, show n + (64 - n) = 64 by omega]
  have hp2 : 2 ^ (n - 1) * 2 ^ (64 - n) = 9223372036854775808 := by rw [← Nat.pow_add, show n - 1 + (64 - n) = 63 by omega]
  have h4 : x * 2 ^ (64 - n) < 18446744073709551616 := by rw [← hp]; exact Nat.mul_lt_mul_of_pos_right h2 (Nat.pow_pos (by decide))
  have h5 : 9223372036854775808 ≤ x * 2 ^ (64 - n) := by rw [← hp2]; exact Nat.mul_le_mul_right _ b
  have H4 := Lib.hid h4
  have H5 := Lib.hid h5
  clear hp hp2 h4 h5 h2 b
  go_wp2_with fail
  go_ret
  exact ⟨64 - n, ret_int (by omega), by omega, H4.out, H5.out, rfl⟩
/-! ### the plain step: a quotient of two half words -/
section
variable {Y a b u v q r : Nat} (hY : a * 4294967296 + b = Y) (ha : 2147483648 ≤ a) (hal : a < 4294967296) (hb : b < 4294967296) (hu : u < Y) (hv : v < 4294967296)
include hY ha hal hb hu hv
omit hY ha hal hb in
theorem knuth_q (hY0 : 0 < Y) : (u * 4294967296 + v) / Y < 4294967296 := by
  rw [Nat.div_lt_iff_lt_mul hY0]
  have : 4294967296 * (u + 1) ≤ 4294967296 * Y := Nat.mul_le_mul_left _ hu
  rw [Nat.mul_succ] at this
  omega
omit ha hal hb hu hv in
theorem knuth_mul (hq : q * a + r = u) : q * Y = (u - r) * 4294967296 + q * b := by
  rw [← hY, Nat.mul_add, ← Nat.mul_assoc, show q * a = u - r by omega]
theorem knuth_start : (u * 4294967296 + v) / Y ≤ u / a ∧ u / a ≤ 4294967297 ∧ u / a * a + u % a = u ∧ u % a < 4294967296 := by
  have h1 := Nat.div_mul_le_self (u * 4294967296 + v) Y
  refine ⟨?_, ?_, ?_, ?_⟩
  · rw [Nat.le_div_iff_mul_le (by omega)]
    obtain ⟨Q, hQ⟩ : ∃ Q, (u * 4294967296 + v) / Y = Q := ⟨_, rfl⟩
    rw [hQ] at h1 ⊢
    rw [← hY, Nat.mul_add, ← Nat.mul_assoc] at h1
    omega
  · rcases Nat.lt_or_ge (u / a) 4294967298 with h | h
    · omega
    · have h2 := Nat.div_mul_le_self u a
      have h3 := Nat.mul_le_mul_right a h
      omega
  · rw [Nat.mul_comm]; exact Nat.div_add_mod u a
  · have := Nat.mod_lt u (show 0 < a by omega); omega
omit ha hal hb in
/-- the test says yes: the guess is too great -/
theorem knuth_more (hq : q * a + r = u) (h : 4294967296 ≤ q ∨ 4294967296 * r + v < q * b) : (u * 4294967296 + v) / Y < q := by
  rcases h with h | h
  · have := knuth_q hu hv (show 0 < Y by omega); omega
  · rw [Nat.div_lt_iff_lt_mul (by omega), knuth_mul hY hq]
    have hr : r ≤ u := by have := Nat.zero_le (q * a); omega
    omega
omit ha hal hb hv in
/-- it says no, or the rest is great: the guess is right -/
theorem knuth_done (hq : q * a + r = u) (hQ : (u * 4294967296 + v) / Y ≤ q) (h : q * b ≤ 4294967296 * r + v) : q = (u * 4294967296 + v) / Y := by
  refine Nat.le_antisymm ?_ hQ
  rw [Nat.le_div_iff_mul_le (by omega), knuth_mul hY hq]
  have hr : r ≤ u := by have := Nat.zero_le (q * a); omega
  omega
omit ha hal in
theorem knuth_break (hq : q * a + r = u) (hQ : (u * 4294967296 + v) / Y ≤ q) (h : 4294967296 ≤ r) (hq1 : q ≤ 4294967296) : q = (u * 4294967296 + v) / Y := by
  refine knuth_done hY hu hq hQ ?_
  have h1 : q * b ≤ 4294967296 * b := Nat.mul_le_mul_right _ hq1
  omega
omit hY ha hal hb hv in
theorem knuth_rest : u * 4294967296 + v = (u * 4294967296 + v) / Y * Y + (u * 4294967296 + v) % Y ∧ (u * 4294967296 + v) % Y < Y := by
  refine ⟨?_, Nat.mod_lt _ (by omega)⟩
  rw [Nat.mul_comm _ Y]; exact (Nat.div_add_mod _ _).symm
end
theorem div_norm {hi lo s y Y : Nat} (hs : s ≤ 63) (hlo : lo < 18446744073709551616) (hY : y * 2 ^ s = Y) (hlt : hi < y) (hYl : Y < 18446744073709551616) :
    hi * 2 ^ s < 18446744073709551616 ∧ lo / 2 ^ (64 - s) < 2 ^ s ∧ hi * 2 ^ s + lo / 2 ^ (64 - s) < Y ∧ (hi * 2 ^ s ||| lo / 2 ^ (64 - s)) = hi * 2 ^ s + lo / 2 ^ (64 - s) ∧
    (hi * 18446744073709551616 + lo) * 2 ^ s = (hi * 2 ^ s + lo / 2 ^ (64 - s)) * 18446744073709551616 + lo * 2 ^ s % 18446744073709551616 := by
  have hp : 2 ^ (64 - s) * 2 ^ s = 18446744073709551616 := by rw [← Nat.pow_add, show 64 - s + s = 64 by omega]
  have hps : 0 < 2 ^ s := Nat.pow_pos (by decide)
  have hpl : 0 < 2 ^ (64 - s) := Nat.pow_pos (by decide)
  have hl : lo / 2 ^ (64 - s) < 2 ^ s := by
    rw [Nat.div_lt_iff_lt_mul hpl, Nat.mul_comm, hp]; exact hlo
  have hh : (hi + 1) * 2 ^ s ≤ y * 2 ^ s := Nat.mul_le_mul_right _ hlt
  rw [Nat.succ_mul] at hh
  refine ⟨by omega, hl, by omega, ?_, ?_⟩
  · have := Nat.two_pow_add_eq_or_of_lt hl hi
    rw [Nat.mul_comm] at this
    exact this.symm
  · have hd := Nat.div_add_mod lo (2 ^ (64 - s))
    have hm := Nat.mod_lt lo hpl
    generalize lo / 2 ^ (64 - s) = l at *
    generalize lo % 2 ^ (64 - s) = t at *
    have e1 : lo * 2 ^ s = l * 18446744073709551616 + t * 2 ^ s := by
      rw [← hd, Nat.add_mul, Nat.mul_comm (2 ^ (64 - s)) l, Nat.mul_assoc, hp]
    have e2 : t * 2 ^ s < 18446744073709551616 := by rw [← hp]; exact Nat.mul_lt_mul_of_pos_right hm hps
    rw [e1, Nat.add_comm (l * 18446744073709551616), Nat.add_mul_mod_self_right, Nat.mod_eq_of_lt e2, Nat.add_mul, e1, Nat.add_mul]
    rw [Nat.mul_right_comm hi]
    omega
theorem div_end {hi lo s y Y u m m1 m0 R : Nat} (hY : y * 2 ^ s = Y) (hU : (hi * 18446744073709551616 + lo) * 2 ^ s = u * 18446744073709551616 + m) (hm1 : m / 4294967296 = m1) (hm0 : m % 4294967296 = m0)
    (hR : (u * 4294967296 + m1) % Y = R) : (R * 4294967296 + m0) % Y / 2 ^ s = (hi * 18446744073709551616 + lo) % y := by
  have hps : 0 < 2 ^ s := Nat.pow_pos (by decide)
  have e1 : (R * 4294967296 + m0) % Y = (u * 18446744073709551616 + m) % Y := by
    have e2 : ((u * 4294967296 + m1) % Y * 4294967296 + m0) % Y = ((u * 4294967296 + m1) * 4294967296 + m0) % Y := by
      rw [Nat.add_mod, Nat.mul_mod, Nat.mod_mod, ← Nat.mul_mod, ← Nat.add_mod]
    rw [hR] at e2
    rw [e2, show (u * 4294967296 + m1) * 4294967296 + m0 = u * 18446744073709551616 + m by omega]
  rw [e1, ← hU, ← hY, Nat.mul_mod_mul_right, Nat.mul_div_cancel _ hps]
theorem quo_one {u m m1 m0 X R : Nat} (h1 : m / 4294967296 = m1) (h2 : m % 4294967296 = m0) (t : (u * 4294967296 + m1) * 4294967296 = X + R * 4294967296) : u * 18446744073709551616 + m = X + (R * 4294967296 + m0) := by
  rw [← Nat.add_assoc, ← t, show (u * 4294967296 + m1) * 4294967296 + m0 = u * 18446744073709551616 + m by clear t; omega]
theorem div_quo {hi lo s y Y u m m1 m0 Q R : Nat} (h0 : 0 < Y) (hY : y * 2 ^ s = Y) (hU : (hi * 18446744073709551616 + lo) * 2 ^ s = u * 18446744073709551616 + m) (hm1 : m / 4294967296 = m1) (hm0 : m % 4294967296 = m0)
    (hQ : (u * 4294967296 + m1) / Y = Q) (hR : (u * 4294967296 + m1) % Y = R) : Q * 4294967296 + (R * 4294967296 + m0) / Y = (hi * 18446744073709551616 + lo) / y := by
  have hps : 0 < 2 ^ s := Nat.pow_pos (by decide)
  have e0 : Y * Q + R = u * 4294967296 + m1 := by rw [← hQ, ← hR]; exact Nat.div_add_mod _ _
  have e1 : (hi * 18446744073709551616 + lo) / y = (u * 18446744073709551616 + m) / Y := by rw [← hU, ← hY, Nat.mul_div_mul_right _ _ hps]
  have e2 : u * 18446744073709551616 + m = Y * (Q * 4294967296) + (R * 4294967296 + m0) := by
    have : (Y * Q + R) * 4294967296 = Y * (Q * 4294967296) + R * 4294967296 := by rw [Nat.add_mul, Nat.mul_assoc]
    rw [e0] at this
    exact quo_one hm1 hm0 this
  rw [e1, e2, Nat.mul_add_div h0]
theorem quo_lt {hi lo y : Nat} (hlt : hi < y) (hlo : lo < 18446744073709551616) : (hi * 18446744073709551616 + lo) / y < 18446744073709551616 := by
  have h1 : (hi + 1) * 18446744073709551616 ≤ y * 18446744073709551616 := Nat.mul_le_mul_right _ hlt
  have h2 : hi * 18446744073709551616 + lo < y * 18446744073709551616 := by omega
  generalize hi * 18446744073709551616 + lo = x at h2 ⊢
  rw [Nat.mul_comm] at h2
  exact (Nat.div_lt_iff_lt_mul (Nat.lt_of_le_of_lt (Nat.zero_le _) hlt)).2 h2

/-- what the loops keep -/
def KnI (Y a u v q r : Nat) : Prop := q * a + r = u ∧ (u * 4294967296 + v) / Y ≤ q ∧ q ≤ 4294967297
set_option maxRecDepth 100000 in
set_option maxHeartbeats 16000000 in
theorem div64_one (hi lo y : Nat) (hy : y < 18446744073709551616) (h0 : y ≠ 0) (hlt : hi < y) (hh : hi ≠ 0) (hlo : lo < 18446744073709551616) (w : World) :
    Calls Try.prog 59 #[.int .u64 hi, .int .u64 lo, .int .u64 y] w fun e w' => e = .returned (.tuple #[.int .u64 ((hi * 18446744073709551616 + lo) / y : Nat), .int .u64 ((hi * 18446744073709551616 + lo) % y : Nat)]) ∧ w = w' := by
  have HY := Lib.hid hy
  have H0 := Lib.hid h0
  have HLO := Lib.hid hlo
  have HH := Lib.hid hh
  have HLT := Lib.hid hlt
  have z0 : ((y : Int) == 0) = false := by rw [beq_eq_false_iff_ne]; omega
  have z1 : decide ((y : Int) ≤ (hi : Int)) = false := decide_eq_false (by omega)
  have z1n : decide (y ≤ hi) = false := decide_eq_false (by omega)
  have z1i : ¬ y ≤ hi := by omega
  have z2 : ((hi : Int) == 0) = false := by rw [beq_eq_false_iff_ne]; omega
  clear hy h0 hlo hh hlt
  go_enter Try.func59, Try.ntmps59
  go_wp2_with fail
  refine (lz64_any y HY.out H0.out w).mono ?_
  rintro e w1 ⟨s, rfl, h1, h2, h3, rfl⟩
  obtain ⟨Y, hY⟩ : ∃ Y, y * 2 ^ s = Y := ⟨_, rfl⟩
  rw [hY] at h2 h3
  have y1 : IntKind.u64.wrap ((y : Int) * 2 ^ s) = (Y : Int) := by
    have : ((y : Int) * 2 ^ s) = ((y * 2 ^ s : Nat) : Int) := by simp
    rw [this, hY]; exact wrapN Y h2
  obtain ⟨a, ha⟩ : ∃ a, Y / 4294967296 = a := ⟨_, rfl⟩
  obtain ⟨b, hb⟩ : ∃ b, Y % 4294967296 = b := ⟨_, rfl⟩
  have y2 : (Y : Int) / 4294967296 = (a : Int) := by omega
  have y3 : bits .and .u64 (Y : Int) 4294967295 = (b : Int) := by rw [maskN Y h2, hb]
  have y4 : ¬ (a : Int) = 0 := by omega
  obtain ⟨n1, n2, n3, n4, n5⟩ := div_norm h1 HLO.out hY HLT.out h2
  obtain ⟨H, hH⟩ : ∃ x, hi * 2 ^ s = x := ⟨_, rfl⟩
  obtain ⟨l, hl⟩ : ∃ x, lo / 2 ^ (64 - s) = x := ⟨_, rfl⟩
  obtain ⟨m, hm⟩ : ∃ x, lo * 2 ^ s % 18446744073709551616 = x := ⟨_, rfl⟩
  have y5 : IntKind.u64.wrap ((hi : Int) * 2 ^ s) = (H : Int) := by
    have : ((hi : Int) * 2 ^ s) = ((hi * 2 ^ s : Nat) : Int) := by simp
    rw [this, hH]; exact wrapN H (by omega)
  have y6 : (lo : Int) / 2 ^ (64 - s) = (l : Int) := by
    have : ((lo : Int) / 2 ^ (64 - s)) = ((lo / 2 ^ (64 - s) : Nat) : Int) := by simp
    rw [this, hl]
  have y7 : IntKind.u64.wrap ((lo : Int) * 2 ^ s) = (m : Int) := by
    have : ((lo : Int) * 2 ^ s) = ((lo * 2 ^ s : Nat) : Int) := by simp
    rw [this, wrapM, hm]
  rw [hH, hl] at n3 n4 n5
  rw [hH] at n1
  rw [hm] at n5
  obtain ⟨u, hu⟩ : ∃ x, H + l = x := ⟨_, rfl⟩
  rw [hu] at n3 n4 n5
  have y8 : bits .or .u64 (H : Int) (l : Int) = (u : Int) := by rw [bits_or_u64_nat H l n1 (by omega), n4]
  have hml : m < 18446744073709551616 := by rw [← hm]; exact Nat.mod_lt _ (by decide)
  obtain ⟨m1, hm1⟩ : ∃ x, m / 4294967296 = x := ⟨_, rfl⟩
  obtain ⟨m0, hm0⟩ : ∃ x, m % 4294967296 = x := ⟨_, rfl⟩
  have y9 : (m : Int) / 4294967296 = (m1 : Int) := by omega
  have y10 : bits .and .u64 (m : Int) 4294967295 = (m0 : Int) := by rw [maskN m hml, hm0]
  have bm1 : m1 < 4294967296 := by omega
  have bm0 : m0 < 4294967296 := by omega
  have ba1 : 2147483648 ≤ a := by omega
  have ba2 : a < 4294967296 := by omega
  have bb : b < 4294967296 := by omega
  have hab : a * 4294967296 + b = Y := by omega
  obtain ⟨k1, k2, k3, k4⟩ := knuth_start hab ba1 ba2 bb n3 bm1
  obtain ⟨q0, hq0⟩ : ∃ x, u / a = x := ⟨_, rfl⟩
  obtain ⟨r0, hr0⟩ : ∃ x, u % a = x := ⟨_, rfl⟩
  rw [hq0] at k1 k2 k3
  rw [hr0] at k3 k4
  obtain ⟨p0, hp0⟩ : ∃ x, q0 * a = x := ⟨_, rfl⟩
  have x1 : (u : Int).tdiv (a : Int) = (q0 : Int) := by rw [← hq0]; exact Int.ofNat_tdiv u a
  have x1' : (u : Int) / (a : Int) = (q0 : Int) := by rw [← hq0]; rfl
  have x2 : IntKind.u64.wrap (q0 : Int) = (q0 : Int) := wrapN _ (by omega)
  have x3 : IntKind.u64.wrap ((q0 : Int) * (a : Int)) = (p0 : Int) := by rw [mulN, hp0]; exact wrapN _ (by omega)
  have x4 : IntKind.u64.wrap ((u : Int) - (p0 : Int)) = (r0 : Int) := by
    rw [show (u : Int) - (p0 : Int) = (r0 : Int) by omega]; exact wrapN _ (by omega)
  have KE := Lib.hid (fun R (hR : (u * 4294967296 + m1) % Y = R) => div_end hY n5 hm1 hm0 hR)
  have KF := Lib.hid (fun Q R (h0 : 0 < Y) (hQ : (u * 4294967296 + m1) / Y = Q) (hR : (u * 4294967296 + m1) % Y = R) => div_quo h0 hY n5 hm1 hm0 hQ hR)
  have KL := Lib.hid (quo_lt HLT.out HLO.out)
  have K0 : Hid (KnI Y a u m1 q0 r0) := Lib.hid ⟨k3, k1, k2⟩
  have KA := Lib.hid (And.intro hab (And.intro ba1 (And.intro ba2 bb)))
  have KU := Lib.hid (And.intro n3 bm1)
  have KM := Lib.hid bm0
  have KY := Lib.hid h2
  have KHM := Lib.hid hm0
  clear hY ha hb h2 h3 n1 n2 n3 n4 n5 hH hl hm hu hml hm1 hm0 hab k1 k2 k3 hq0 hr0 hp0 ba1 bm1 bm0 bb
  go_upto_block 0 with fail
  clear x1 x1' x2 x3 x4 y1 y2 y3 y5 y6 y7 y8 y9 y10 z0 z1 z1n z1i z2
  go_cut [15] (fun q' wx => q' = .int .u64 (((u * 4294967296 + m1) / Y : Nat) : Int) ∧ w = wx)
  case first =>
    go_wp2_with fail
    go_loopw [15, 16] (fun q' r' wr => ∃ q r : Nat, q' = .int .u64 q ∧ r' = .int .u64 r ∧ Hid (KnI Y a u m1 q r) ∧ Hid (r < 4294967296) ∧ w = wr) (fun q' _ _ => (intOf q').toNat)
    case atStart => exact ⟨_, _, rfl, rfl, K0, k4, rfl⟩
    case round =>
      clear K0 k4
      obtain ⟨q, r, rfl, rfl, KI, KR, rfl⟩ := hrel
      obtain ⟨hab, ba1, ba2, bb⟩ := KA.out
      have n3 := KU.out.1
      have bm1 := KU.out.2
      obtain ⟨i1, i2, i3⟩ := KI.out
      have i4 := KR.out
      obtain ⟨r', hr'⟩ : ∃ x, r + a = x := ⟨_, rfl⟩
      have x2 : IntKind.u64.wrap ((r : Int) + (a : Int)) = (r' : Int) := by rw [addN, hr']; exact wrapN _ (by omega)
      by_cases c1 : 4294967296 ≤ q
      · have hlt := knuth_more hab n3 bm1 i1 (.inl c1)
        obtain ⟨q', rfl⟩ : ∃ x, q = x + 1 := ⟨q - 1, by omega⟩
        have hI' : KnI Y a u m1 q' r' := ⟨by rw [Nat.succ_mul] at i1; omega, by omega, by omega⟩
        have KI' := Lib.hid hI'
        have z1 : decide ((4294967296 : Int) ≤ ((q' + 1 : Nat) : Int)) = true := decide_eq_true (by omega)
        have x1 : IntKind.u64.wrap (((q' + 1 : Nat) : Int) - 1) = (q' : Int) := by rw [show ((q' + 1 : Nat) : Int) - 1 = (q' : Int) by omega]; exact wrapN _ (by omega)
        by_cases c2 : 4294967296 ≤ r'
        · have hq := knuth_break hab bb n3 bm1 hI'.1 hI'.2.1 c2 (by omega)
          have HQ := Lib.hid hq
          have z2 : decide ((4294967296 : Int) ≤ (r' : Int)) = true := decide_eq_true (by omega)
          clear hq hI' hlt hab ba1 ba2 bb n3 bm1 i1 i2 i3 i4 c1 c2 hr'
          generalize ((q' + 1 : Nat) : Int) = qq at z1 x1 ⊢
          go_wp2_with fail
          go_meet
          case rel => exact ⟨by rw [← HQ.out], rfl⟩
        · have z2 : decide ((4294967296 : Int) ≤ (r' : Int)) = false := decide_eq_false (by omega)
          have KR' := Lib.hid (show r' < 4294967296 by omega)
          clear hI' hlt hab ba1 ba2 bb n3 bm1 i1 i2 i3 i4 c1 c2 hr'
          obtain ⟨qq, hqq⟩ : ∃ x : Int, ((q' + 1 : Nat) : Int) = x := ⟨_, rfl⟩
          have HQQ := Lib.hid hqq
          rw [hqq] at z1 x1 ⊢
          clear hqq
          go_wp2_with fail
          go_roundw
          case rel => exact ⟨q', r', rfl, rfl, KI', KR', by trivial⟩
          case measure => have := HQQ.out; simp [intOf]; omega
      · obtain ⟨pb, hpb⟩ : ∃ x, q * b = x := ⟨_, rfl⟩
        have hpbl : pb ≤ 4294967295 * 4294967295 := by rw [← hpb]; exact Nat.mul_le_mul (by omega) (by omega)
        have x3 : IntKind.u64.wrap ((q : Int) * (b : Int)) = (pb : Int) := by rw [mulN, hpb]; exact wrapN _ (by omega)
        obtain ⟨rv, hrv⟩ : ∃ x, 4294967296 * r + m1 = x := ⟨_, rfl⟩
        have x4 : IntKind.u64.wrap (4294967296 * (r : Int)) = 4294967296 * (r : Int) := by
          rw [show 4294967296 * (r : Int) = ((4294967296 * r : Nat) : Int) by omega]; exact wrapN _ (by omega)
        have x5 : IntKind.u64.wrap (4294967296 * (r : Int) + (m1 : Int)) = (rv : Int) := by
          rw [show 4294967296 * (r : Int) + (m1 : Int) = (rv : Int) by omega]; exact wrapN _ (by omega)
        have z1 : decide ((4294967296 : Int) ≤ (q : Int)) = false := decide_eq_false (by omega)
        by_cases c3 : rv < pb
        · have hlt := knuth_more hab n3 bm1 i1 (.inr (by rw [hpb]; omega))
          have z3 : decide (rv < pb) = true := decide_eq_true c3
          have hq0 : 0 < q := Nat.lt_of_le_of_lt (Nat.zero_le _) hlt
          obtain ⟨q', hq'⟩ : ∃ x, q = x + 1 := ⟨q - 1, by omega⟩
          have hI' : KnI Y a u m1 q' r' := ⟨by rw [hq', Nat.succ_mul] at i1; omega, by omega, by omega⟩
          have KI' := Lib.hid hI'
          have x1 : IntKind.u64.wrap ((q : Int) - 1) = (q' : Int) := by rw [show (q : Int) - 1 = (q' : Int) by omega]; exact wrapN _ (by omega)
          have hql : q' < q := by omega
          have HQL := Lib.hid hql
          by_cases c2 : 4294967296 ≤ r'
          · have hq := knuth_break hab bb n3 bm1 hI'.1 hI'.2.1 c2 (by omega)
            have HQ := Lib.hid hq
            have z2 : decide ((4294967296 : Int) ≤ (r' : Int)) = true := decide_eq_true (by omega)
            clear hq hI' hlt hab ba1 ba2 bb n3 bm1 i1 i2 i3 i4 c1 c2 hr' hpb hpbl hrv hq' hql c3 hq0
            go_wp2_with fail
            go_meet
            case rel => exact ⟨by rw [← HQ.out], rfl⟩
          · have z2 : decide ((4294967296 : Int) ≤ (r' : Int)) = false := decide_eq_false (by omega)
            have KR' := Lib.hid (show r' < 4294967296 by omega)
            clear hI' hlt hab ba1 ba2 bb n3 bm1 i1 i2 i3 i4 c1 c2 hr' hpb hpbl hrv hq' hql c3 hq0
            go_wp2_with fail
            go_roundw
            case rel => exact ⟨q', r', rfl, rfl, KI', KR', by trivial⟩
            case measure => have := HQL.out; simp [intOf]; omega
        · have hq := knuth_done hab n3 i1 i2 (by rw [hpb]; omega)
          have HQ := Lib.hid hq
          have z3 : decide (rv < pb) = false := decide_eq_false c3
          clear hq hab ba1 ba2 bb n3 bm1 i1 i2 i3 i4 c1 hr' hpb hpbl hrv c3
          go_wp2_with fail
          go_meet
          case rel => exact ⟨by rw [← HQ.out], rfl⟩
  case rest =>
    obtain ⟨rfl, rfl⟩ := hcut
    clear K0 k4
    obtain ⟨Q, hQ⟩ : ∃ x, (u * 4294967296 + m1) / Y = x := ⟨_, rfl⟩
    obtain ⟨R, hR⟩ : ∃ x, (u * 4294967296 + m1) % Y = x := ⟨_, rfl⟩
    obtain ⟨t1, t2⟩ := knuth_rest (v := m1) KU.out.1
    have t3 := knuth_q KU.out.1 KU.out.2 (show 0 < Y by have := KU.out.1; omega)
    rw [hQ, hR] at t1
    rw [hR] at t2
    rw [hQ] at t3 ⊢
    have KE' := Lib.hid (KE.out R hR)
    have KF' := Lib.hid (KF.out Q R (by omega) hQ hR)
    obtain ⟨hab, ba1, ba2, bb⟩ := KA.out
    have hyl := KY.out
    obtain ⟨k1, k2, k3, k4⟩ := knuth_start hab ba1 ba2 bb t2 KM.out
    obtain ⟨q0, hq0⟩ : ∃ x, R / a = x := ⟨_, rfl⟩
    obtain ⟨r0, hr0⟩ : ∃ x, R % a = x := ⟨_, rfl⟩
    rw [hq0] at k1 k2 k3
    rw [hr0] at k3 k4
    obtain ⟨p0, hp0⟩ : ∃ x, q0 * a = x := ⟨_, rfl⟩
    obtain ⟨pq, hpq⟩ : ∃ x, Q * Y = x := ⟨_, rfl⟩
    rw [hpq] at t1
    have e1 : IntKind.u64.wrap (IntKind.u64.wrap (IntKind.u64.wrap ((u : Int) * 4294967296) + (m1 : Int)) - IntKind.u64.wrap ((Q : Int) * (Y : Int))) = (R : Int) := by
      rw [mulN, hpq, IntKind.wrap_u64, IntKind.wrap_u64, IntKind.wrap_u64, IntKind.wrap_u64]; omega
    have x1 : (R : Int).tdiv (a : Int) = (q0 : Int) := by rw [← hq0]; exact Int.ofNat_tdiv R a
    have x1' : (R : Int) / (a : Int) = (q0 : Int) := by rw [← hq0]; rfl
    have x2 : IntKind.u64.wrap (q0 : Int) = (q0 : Int) := wrapN _ (by omega)
    have x3 : IntKind.u64.wrap ((q0 : Int) * (a : Int)) = (p0 : Int) := by rw [mulN, hp0]; exact wrapN _ (by omega)
    have x4 : IntKind.u64.wrap ((R : Int) - (p0 : Int)) = (r0 : Int) := by
      rw [show (R : Int) - (p0 : Int) = (r0 : Int) by omega]; exact wrapN _ (by omega)
    have y4 : ¬ (a : Int) = 0 := by omega
    have K0 : Hid (KnI Y a R m0 q0 r0) := Lib.hid ⟨k3, k1, k2⟩
    have KR0 := Lib.hid k4
    have KRL := Lib.hid t2
    clear k1 k2 k3 k4 t1 t2 t3 hab ba1 ba2 bb hyl hq0 hr0 hp0 hpq hQ hR KE KF KU
    go_upto_block 2 with fail
    clear e1 x1 x1' x2 x3 x4 y4
    go_cut [18] (fun q' wx => q' = .int .u64 (((R * 4294967296 + m0) / Y : Nat) : Int) ∧ w = wx)
    case first =>
      go_wp2_with fail
      go_loopw [18, 16] (fun q' r' wr => ∃ q r : Nat, q' = .int .u64 q ∧ r' = .int .u64 r ∧ Hid (KnI Y a R m0 q r) ∧ Hid (r < 4294967296) ∧ w = wr) (fun q' _ _ => (intOf q').toNat)
      case atStart => exact ⟨_, _, rfl, rfl, K0, KR0, rfl⟩
      case round =>
        clear K0 KR0
        obtain ⟨q, r, rfl, rfl, KI, KR, rfl⟩ := hrel
        obtain ⟨hab, ba1, ba2, bb⟩ := KA.out
        have n3 := KRL.out
        have bm1 := KM.out
        obtain ⟨i1, i2, i3⟩ := KI.out
        have i4 := KR.out
        obtain ⟨r', hr'⟩ : ∃ x, r + a = x := ⟨_, rfl⟩
        have x2 : IntKind.u64.wrap ((r : Int) + (a : Int)) = (r' : Int) := by rw [addN, hr']; exact wrapN _ (by omega)
        by_cases c1 : 4294967296 ≤ q
        · have hlt := knuth_more hab n3 bm1 i1 (.inl c1)
          obtain ⟨q', rfl⟩ : ∃ x, q = x + 1 := ⟨q - 1, by omega⟩
          have hI' : KnI Y a R m0 q' r' := ⟨by rw [Nat.succ_mul] at i1; omega, by omega, by omega⟩
          have KI' := Lib.hid hI'
          have z1 : decide ((4294967296 : Int) ≤ ((q' + 1 : Nat) : Int)) = true := decide_eq_true (by omega)
          have x1 : IntKind.u64.wrap (((q' + 1 : Nat) : Int) - 1) = (q' : Int) := by rw [show ((q' + 1 : Nat) : Int) - 1 = (q' : Int) by omega]; exact wrapN _ (by omega)
          by_cases c2 : 4294967296 ≤ r'
          · have hq := knuth_break hab bb n3 bm1 hI'.1 hI'.2.1 c2 (by omega)
            have HQ := Lib.hid hq
            have z2 : decide ((4294967296 : Int) ≤ (r' : Int)) = true := decide_eq_true (by omega)
            clear hq hI' hlt hab ba1 ba2 bb n3 bm1 i1 i2 i3 i4 c1 c2 hr'
            generalize ((q' + 1 : Nat) : Int) = qq at z1 x1 ⊢
            go_wp2_with fail
            go_meet
            case rel => exact ⟨by rw [← HQ.out], rfl⟩
          · have z2 : decide ((4294967296 : Int) ≤ (r' : Int)) = false := decide_eq_false (by omega)
            have KR' := Lib.hid (show r' < 4294967296 by omega)
            clear hI' hlt hab ba1 ba2 bb n3 bm1 i1 i2 i3 i4 c1 c2 hr'
            obtain ⟨qq, hqq⟩ : ∃ x : Int, ((q' + 1 : Nat) : Int) = x := ⟨_, rfl⟩
            have HQQ := Lib.hid hqq
            rw [hqq] at z1 x1 ⊢
            clear hqq
            go_wp2_with fail
            go_roundw
            case rel => exact ⟨q', r', rfl, rfl, KI', KR', by trivial⟩
            case measure => have := HQQ.out; simp [intOf]; omega
        · obtain ⟨pb, hpb⟩ : ∃ x, q * b = x := ⟨_, rfl⟩
          have hpbl : pb ≤ 4294967295 * 4294967295 := by rw [← hpb]; exact Nat.mul_le_mul (by omega) (by omega)
          have x3 : IntKind.u64.wrap ((q : Int) * (b : Int)) = (pb : Int) := by rw [mulN, hpb]; exact wrapN _ (by omega)
          obtain ⟨rv, hrv⟩ : ∃ x, 4294967296 * r + m0 = x := ⟨_, rfl⟩
          have x4 : IntKind.u64.wrap (4294967296 * (r : Int)) = 4294967296 * (r : Int) := by
            rw [show 4294967296 * (r : Int) = ((4294967296 * r : Nat) : Int) by omega]; exact wrapN _ (by omega)
          have x5 : IntKind.u64.wrap (4294967296 * (r : Int) + (m0 : Int)) = (rv : Int) := by
            rw [show 4294967296 * (r : Int) + (m0 : Int) = (rv : Int) by omega]; exact wrapN _ (by omega)
          have z1 : decide ((4294967296 : Int) ≤ (q : Int)) = false := decide_eq_false (by omega)
          by_cases c3 : rv < pb
          · have hlt := knuth_more hab n3 bm1 i1 (.inr (by rw [hpb]; omega))
            have z3 : decide (rv < pb) = true := decide_eq_true c3
            have hq0 : 0 < q := Nat.lt_of_le_of_lt (Nat.zero_le _) hlt
            obtain ⟨q', hq'⟩ : ∃ x, q = x + 1 := ⟨q - 1, by omega⟩
            have hI' : KnI Y a R m0 q' r' := ⟨by rw [hq', Nat.succ_mul] at i1; omega, by omega, by omega⟩
            have KI' := Lib.hid hI'
            have x1 : IntKind.u64.wrap ((q : Int) - 1) = (q' : Int) := by rw [show (q : Int) - 1 = (q' : Int) by omega]; exact wrapN _ (by omega)
            have hql : q' < q := by omega
            have HQL := Lib.hid hql
            by_cases c2 : 4294967296 ≤ r'
            · have hq := knuth_break hab bb n3 bm1 hI'.1 hI'.2.1 c2 (by omega)
              have HQ := Lib.hid hq
              have z2 : decide ((4294967296 : Int) ≤ (r' : Int)) = true := decide_eq_true (by omega)
              clear hq hI' hlt hab ba1 ba2 bb n3 bm1 i1 i2 i3 i4 c1 c2 hr' hpb hpbl hrv hq' hql c3 hq0
              go_wp2_with fail
              go_meet
              case rel => exact ⟨by rw [← HQ.out], rfl⟩
            · have z2 : decide ((4294967296 : Int) ≤ (r' : Int)) = false := decide_eq_false (by omega)
              have KR' := Lib.hid (show r' < 4294967296 by omega)
              clear hI' hlt hab ba1 ba2 bb n3 bm1 i1 i2 i3 i4 c1 c2 hr' hpb hpbl hrv hq' hql c3 hq0
              go_wp2_with fail
              go_roundw
              case rel => exact ⟨q', r', rfl, rfl, KI', KR', by trivial⟩
              case measure => have := HQL.out; simp [intOf]; omega
          · have hq := knuth_done hab n3 i1 i2 (by rw [hpb]; omega)
            have HQ := Lib.hid hq
            have z3 : decide (rv < pb) = false := decide_eq_false c3
            clear hq hab ba1 ba2 bb n3 bm1 i1 i2 i3 i4 c1 hr' hpb hpbl hrv c3
            go_wp2_with fail
            go_meet
            case rel => exact ⟨by rw [← HQ.out], rfl⟩
    case rest =>
      obtain ⟨rfl, rfl⟩ := hcut
      clear K0 KR0
      obtain ⟨Q2, hQ⟩ : ∃ x, (R * 4294967296 + m0) / Y = x := ⟨_, rfl⟩
      obtain ⟨R2, hR⟩ : ∃ x, (R * 4294967296 + m0) % Y = x := ⟨_, rfl⟩
      obtain ⟨t1, t2⟩ := knuth_rest (v := m0) KRL.out
      have t3 := knuth_q KRL.out KM.out (show 0 < Y by have := KRL.out; omega)
      have hyl := KY.out
      have hm0 := KM.out
      have hrl := KRL.out
      rw [hQ, hR] at t1
      rw [hR] at t2
      rw [hQ] at t3 ⊢
      have hfin := KE'.out
      rw [hR] at hfin
      obtain ⟨pq, hpq⟩ : ∃ x, Q2 * Y = x := ⟨_, rfl⟩
      rw [hpq] at t1
      obtain ⟨fr, hfr⟩ : ∃ x, (hi * 18446744073709551616 + lo) % y = x := ⟨_, rfl⟩
      rw [hfr] at hfin
      have HFR := Lib.hid hfr
      have e1 : IntKind.u64.wrap (IntKind.u64.wrap (IntKind.u64.wrap ((R : Int) * 4294967296) + (m0 : Int)) - IntKind.u64.wrap ((Q2 : Int) * (Y : Int))) = (R2 : Int) := by
        rw [mulN, hpq, IntKind.wrap_u64, IntKind.wrap_u64, IntKind.wrap_u64, IntKind.wrap_u64]; omega
      have e2 : (R2 : Int) / 2 ^ s = (fr : Int) := by
        have : (R2 : Int) / 2 ^ s = ((R2 / 2 ^ s : Nat) : Int) := by simp
        rw [this, hfin]
      have hfq := KF'.out
      rw [hQ] at hfq
      have hql := KL.out
      obtain ⟨qq, hqq⟩ : ∃ x, (hi * 18446744073709551616 + lo) / y = x := ⟨_, rfl⟩
      rw [hqq] at hfq hql
      have HQQ := Lib.hid hqq
      have e3 : IntKind.u64.wrap (IntKind.u64.wrap ((Q : Int) * 4294967296) + (Q2 : Int)) = (qq : Int) := by rw [IntKind.wrap_u64, IntKind.wrap_u64]; omega
      clear t1 t2 t3 hyl hm0 hrl hfin hpq hfr hQ hR hfq hql hqq
      go_wp2_with fail
      go_ret2
      rw [HFR.out, HQQ.out]
      exact ⟨rfl, rfl⟩
set_option maxHeartbeats 1000000 in
theorem div64_any (hi lo y : Nat) (hy : y < 18446744073709551616) (h0 : y ≠ 0) (hlt : hi < y) (hlo : lo < 18446744073709551616) (w : World) :
    Calls Try.prog 59 #[.int .u64 hi, .int .u64 lo, .int .u64 y] w fun e w' => e = .returned (.tuple #[.int .u64 ((hi * 18446744073709551616 + lo) / y : Nat), .int .u64 ((hi * 18446744073709551616 + lo) % y : Nat)]) ∧ ∃ n, w' = w.drewN n := by
  by_cases hh : hi = 0
  · subst hh
    have z0 : ((y : Int) == 0) = false := by rw [beq_eq_false_iff_ne]; omega
    have z1n : ¬ y = 0 := h0
    have z1 : ¬ (y : Int) = 0 := by omega
    have HQ : Hid (lo / y < 18446744073709551616) := Nat.lt_of_le_of_lt (Nat.div_le_self _ _) hlo
    obtain ⟨q, hq⟩ : ∃ q, lo / y = q := ⟨_, rfl⟩
    obtain ⟨r, hr⟩ : ∃ q, lo % y = q := ⟨_, rfl⟩
    have x1 : (lo : Int).tdiv (y : Int) = (q : Int) := by rw [← hq]; exact Int.ofNat_tdiv lo y
    have x2 : (lo : Int).tmod (y : Int) = (r : Int) := by rw [← hr]; exact Int.ofNat_tmod lo y
    have x1' : (lo : Int) / (y : Int) = (q : Int) := by rw [← hq]; rfl
    have x2' : (lo : Int) % (y : Int) = (r : Int) := by rw [← hr]; rfl
    have hql : q < 18446744073709551616 := by rw [← hq]; exact HQ.out
    have hrl : r < 18446744073709551616 := by have := Nat.mod_lt lo (Nat.pos_of_ne_zero h0); omega
    have x3 : IntKind.u64.wrap (q : Int) = (q : Int) := wrapN _ hql
    have x4 : IntKind.u64.wrap (r : Int) = (r : Int) := wrapN _ hrl
    have HR : Hid ((0 * 18446744073709551616 + lo) % y = r) := by rw [Nat.zero_mul, Nat.zero_add]; exact hr
    have HQ' : Hid ((0 * 18446744073709551616 + lo) / y = q) := by rw [Nat.zero_mul, Nat.zero_add]; exact hq
    have hyz : decide (y ≤ 0) = false := decide_eq_false (by omega)
    have hyz' : ¬ y ≤ 0 := by omega
    have hyz'' : decide ((y : Int) ≤ 0) = false := decide_eq_false (by omega)
    clear hq hr hql hrl hlt hy hlo
    show Calls Try.prog 59 #[.int .u64 0, .int .u64 lo, .int .u64 y] w _
    go_enter Try.func59, Try.ntmps59
    go_wp2_with fail
    go_quiet (fail)
    go_wp2_with fail
    go_ret2
    rw [HR.out, HQ'.out]
    exact ⟨rfl, _, rfl⟩
  · refine (div64_one hi lo y hy h0 hlt hh hlo w).mono ?_
    rintro e w' ⟨rfl, rfl⟩
    exact ⟨rfl, 0, rfl⟩
set_option maxHeartbeats 1000000 in
theorem rem64_any (hi lo y : Nat) (hy : y < 18446744073709551616) (h0 : y ≠ 0) (hlo : lo < 18446744073709551616) (w : World) :
    Calls Try.prog 81 #[.int .u64 hi, .int .u64 lo, .int .u64 y] w fun e w' => e = .returned (.int .u64 ((hi * 18446744073709551616 + lo) % y : Nat)) ∧ ∃ n, w' = w.drewN n := by
  obtain ⟨r, hr⟩ : ∃ q, hi % y = q := ⟨_, rfl⟩
  have hry : r < y := by rw [← hr]; exact Nat.mod_lt hi (Nat.pos_of_ne_zero h0)
  have HR : Hid ((r * 18446744073709551616 + lo) % y = (hi * 18446744073709551616 + lo) % y) := by
    rw [← hr]
    show (hi % y * 18446744073709551616 + lo) % y = _
    rw [Nat.add_mod, Nat.mul_mod, Nat.mod_mod, ← Nat.mul_mod, ← Nat.add_mod]
  have x2 : (hi : Int).tmod (y : Int) = (r : Int) := by rw [← hr]; exact Int.ofNat_tmod hi y
  have x2' : (hi : Int) % (y : Int) = (r : Int) := by rw [← hr]; rfl
  have x4 : IntKind.u64.wrap (r : Int) = (r : Int) := wrapN _ (by omega)
  have z1n : ¬ y = 0 := h0
  have z1 : ¬ (y : Int) = 0 := by omega
  have HY := Lib.hid hy
  have H0 := Lib.hid h0
  have HLO := Lib.hid hlo
  have HRY := Lib.hid hry
  clear hr hry hy hlo h0
  go_enter Try.func81, Try.ntmps81
  go_wp2_with fail
  refine (div64_any r lo y HY.out H0.out HRY.out HLO.out w).mono ?_
  rintro e w1 ⟨rfl, n, hw⟩
  rw [HR.out]
  generalize (((r * 18446744073709551616 + lo) / y : Nat) : Int) = q
  have HW := Lib.hid hw
  clear hw
  go_wp2_with fail
  go_ret
  exact ⟨rfl, n, HW.out⟩
end Go.Proofs.Yteanhbldhaiekaa
