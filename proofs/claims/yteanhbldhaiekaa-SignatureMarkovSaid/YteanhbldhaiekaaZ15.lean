/-
  The contracts of bits.Sub64, negate, product, quotient of package signature.
  The memory of Inertia: the matrix, the list of what is done, and the boxes that its closures captured.
  The contracts of the closures of Inertia: add and eliminate.
-/
import Derived.Test.YteanhbldhaiekaaZ03
import Derived.Test.YteanhbldhaiekaaZ14
import Derived.Laws.Externs
import Derived.Deep.CutBlock
namespace Go.Proofs.Yteanhbldhaiekaa
open Go.RowKit

theorem run_sub64 (x y b : Nat) (hb : b ≤ 1) (w : World) : (callFunc 57 #[.int .u64 x, .int .u64 y, .int .u64 b]).run Try.prog w =
    .ok (.value (.tuple #[.int .u64 (((x + 18446744073709551616 - y - b) % 18446744073709551616 : Nat) : Int), .int .u64 ((if x < y + b then 1 else 0 : Nat) : Int)])) w := by
  rw [run_callFunc_extern Try.func57 (by kernel_rfl) (by kernel_rfl) (by kernel_rfl) (e := (Extern.MathBitsCarry.rows[1]).2) (by kernel_rfl)]
  have : b = 0 ∨ b = 1 := by omega
  rcases this with rfl | rfl <;> rfl
set_option maxHeartbeats 1000000 in
theorem negate_any (h l h1 l1 b1 : Nat) (e1 : (18446744073709551616 - l) % 18446744073709551616 = l1) (e2 : (if 0 < l then 1 else 0) = b1) (e3 : (18446744073709551616 - h - b1) % 18446744073709551616 = h1) (w : World) :
    Calls Try.prog 58 #[.int .u64 h, .int .u64 l] w fun e w' => e = .returned (.tuple #[.int .u64 h1, .int .u64 l1]) ∧ w = w' := by
  have s1 : ∀ w, (callFunc 57 #[.int .u64 0, .int .u64 (l : Int), .int .u64 0]).run Try.prog w = .ok (.value (.tuple #[.int .u64 (l1 : Int), .int .u64 (b1 : Int)])) w := fun w => by
    have := run_sub64 0 l 0 (by omega) w
    rw [show 0 + 18446744073709551616 - l - 0 = 18446744073709551616 - l by omega, e1, show (if 0 < l + 0 then 1 else 0) = b1 from e2] at this
    exact this
  obtain ⟨b2, hb2⟩ : ∃ x, (if 0 < h + b1 then 1 else 0 : Nat) = x := ⟨_, rfl⟩
  have s2 : ∀ w, (callFunc 57 #[.int .u64 0, .int .u64 (h : Int), .int .u64 (b1 : Int)]).run Try.prog w = .ok (.value (.tuple #[.int .u64 (h1 : Int), .int .u64 (b2 : Int)])) w := fun w => by
    have := run_sub64 0 h b1 (by rw [← e2]; split <;> omega) w
    rw [show 0 + 18446744073709551616 - h - b1 = 18446744073709551616 - h - b1 by omega, e3, hb2] at this
    exact this
  clear e1 e2 e3 hb2
  go_enter Try.func58, Try.ntmps58
  go_wp2_with (simp only [s1, s2])
  go_ret2
  exact ⟨rfl, rfl⟩
/-- the number of 128 bits that h and l hold, as two's complement -/
def P128 (h l : Nat) (v : Int) : Prop := h < 18446744073709551616 ∧ l < 18446744073709551616 ∧ (h : Int) * 18446744073709551616 + l = if v < 0 then v + 340282366920938463463374607431768211456 else v
theorem P128.neg {h l : Nat} {v : Int} (hp : P128 h l v) (hv : v.natAbs < 170141183460469231731687303715884105728) (w : World) :
    Calls Try.prog 58 #[.int .u64 h, .int .u64 l] w fun e w' => ∃ h' l' : Nat, e = .returned (.tuple #[.int .u64 h', .int .u64 l']) ∧ w = w' ∧ P128 h' l' (-v) := by
  refine (negate_any h l _ _ _ rfl rfl rfl w).mono ?_
  rintro e w' ⟨rfl, rfl⟩
  refine ⟨_, _, rfl, rfl, ?_⟩
  obtain ⟨h1, h2, h3⟩ := hp
  unfold P128
  refine ⟨Nat.mod_lt _ (by decide), Nat.mod_lt _ (by decide), ?_⟩
  by_cases hl : 0 < l
  · rw [if_pos hl]
    split at h3 <;> split <;> omega
  · rw [if_neg hl]
    split at h3 <;> split <;> omega
set_option maxHeartbeats 1000000 in
theorem product_one (a b : Int) (x y : Nat) (hx : (if a < -a then -a else a) = x) (hy : (if b < -b then -b else b) = y) (xl : x < 9223372036854775808) (yl : y < 9223372036854775808)
    (wa : IntKind.i64.wrap (-a) = -a) (wb : IntKind.i64.wrap (-b) = -b) (v : Int) (hv : (x : Int) * y = v) (sa sb : Bool) (hsa : decide (a < 0) = sa) (hsb : decide (b < 0) = sb) (w : World) :
    Calls Try.prog 56 #[.int .i64 a, .int .i64 b] w fun e w' => ∃ h l : Nat, e = .returned (.tuple #[.int .u64 h, .int .u64 l]) ∧ w = w' ∧ P128 h l (if (sa != sb) = true then -v else v) := by
  have wx : IntKind.u64.wrap (x : Int) = (x : Int) := wrapN _ (by omega)
  have wy : IntKind.u64.wrap (y : Int) = (y : Int) := wrapN _ (by omega)
  have XL := Lib.hid (show x < 18446744073709551616 by omega)
  have YL := Lib.hid (show y < 18446744073709551616 by omega)
  have hb : x * y ≤ 9223372036854775807 * 9223372036854775807 := Nat.mul_le_mul (by omega) (by omega)
  have hm := mulN x y
  rw [hv] at hm
  have HP : Hid (P128 (x * y / 18446744073709551616) (x * y % 18446744073709551616) v) := by
    refine ⟨Nat.div_lt_of_lt_mul (by omega), Nat.mod_lt _ (by decide), ?_⟩
    generalize x * y = m at hb hm ⊢
    rw [if_neg (by omega)]
    omega
  have HV : Hid (v.natAbs < 170141183460469231731687303715884105728) := Lib.hid (by omega)
  obtain ⟨h, hh⟩ : ∃ z, x * y / 18446744073709551616 = z := ⟨_, rfl⟩
  obtain ⟨l, hl⟩ : ∃ z, x * y % 18446744073709551616 = z := ⟨_, rfl⟩
  rw [hh, hl] at HP
  have HH := Lib.hid hh
  have HL := Lib.hid hl
  clear hb hm hh hl xl yl hv
  go_enter Try.func56, Try.ntmps56
  go_wp2_with (simp only [hx, hy])
  refine (mul64_any x y XL.out YL.out w).mono ?_
  rintro e w1 ⟨rfl, rfl⟩
  rw [HH.out, HL.out]
  cases sa <;> cases sb
  all_goals go_wp2_with fail
  all_goals first
    | (refine (HP.out.neg HV.out w).mono ?_
       rintro e w1 ⟨h', l', rfl, rfl, hp⟩
       have HP' := Lib.hid hp
       clear hp
       go_wp2_with fail
       go_ret2
       exact ⟨h', l', rfl, rfl, HP'.out⟩)
    | (go_ret2
       exact ⟨_, _, rfl, rfl, HP.out⟩)
theorem product_any (a b : Int) (ha : a.natAbs < 4611686018427387904) (hb : b.natAbs < 4611686018427387904) (w : World) :
    Calls Try.prog 56 #[.int .i64 a, .int .i64 b] w fun e w' => ∃ h l : Nat, e = .returned (.tuple #[.int .u64 h, .int .u64 l]) ∧ w = w' ∧ P128 h l (a * b) := by
  have hx : (if a < -a then -a else a) = (a.natAbs : Int) := by split <;> omega
  have hy : (if b < -b then -b else b) = (b.natAbs : Int) := by split <;> omega
  refine (product_one a b a.natAbs b.natAbs hx hy (by omega) (by omega) (by rw [IntKind.wrap_i64]; omega) (by rw [IntKind.wrap_i64]; omega) _ rfl _ _ rfl rfl w).mono ?_
  rintro e w' ⟨h, l, rfl, hw, hp⟩
  refine ⟨h, l, rfl, hw, ?_⟩
  have : (if (decide (a < 0) != decide (b < 0)) = true then -((a.natAbs : Int) * b.natAbs) else (a.natAbs : Int) * b.natAbs) = a * b := by
    by_cases h1 : a < 0 <;> by_cases h2 : b < 0
    · rw [decide_eq_true h1, decide_eq_true h2, if_neg (by decide), show (a.natAbs : Int) = -a by omega, show (b.natAbs : Int) = -b by omega, Int.neg_mul_neg]
    · rw [decide_eq_true h1, decide_eq_false h2, if_pos (by decide), show (a.natAbs : Int) = -a by omega, show (b.natAbs : Int) = b by omega, Int.neg_mul, Int.neg_neg]
    · rw [decide_eq_false h1, decide_eq_true h2, if_pos (by decide), show (a.natAbs : Int) = a by omega, show (b.natAbs : Int) = -b by omega, Int.mul_neg, Int.neg_neg]
    · rw [decide_eq_false h1, decide_eq_false h2, if_neg (by decide), show (a.natAbs : Int) = a by omega, show (b.natAbs : Int) = b by omega]
  rw [this] at hp
  exact hp
theorem P128.sub {h1 l1 h2 l2 : Nat} {v1 v2 : Int} (p1 : P128 h1 l1 v1) (p2 : P128 h2 l2 v2) (hv1 : v1.natAbs < 85070591730234615865843651857942052864) (hv2 : v2.natAbs < 85070591730234615865843651857942052864) :
    P128 ((h1 + 18446744073709551616 - h2 - (if l1 < l2 + 0 then 1 else 0)) % 18446744073709551616) ((l1 + 18446744073709551616 - l2 - 0) % 18446744073709551616) (v1 - v2) := by
  obtain ⟨a1, a2, a3⟩ := p1
  obtain ⟨b1, b2, b3⟩ := p2
  unfold P128
  refine ⟨Nat.mod_lt _ (by decide), Nat.mod_lt _ (by decide), ?_⟩
  by_cases hl : l1 < l2 + 0
  · rw [if_pos hl]
    split at a3 <;> split at b3 <;> split <;> omega
  · rw [if_neg hl]
    split at a3 <;> split at b3 <;> split <;> omega
theorem P128.top {h l : Nat} {v : Int} (p : P128 h l v) (hv : v.natAbs < 170141183460469231731687303715884105728) : ((h : Int) / 9223372036854775808 == 1) = decide (v < 0) := by
  obtain ⟨a1, a2, a3⟩ := p
  by_cases h0 : v < 0
  · rw [if_pos h0] at a3
    rw [decide_eq_true h0, beq_iff_eq]
    omega
  · rw [if_neg h0] at a3
    rw [decide_eq_false h0, beq_eq_false_iff_ne]
    omega
/-- the last part: a number that is not negative is divided -/
theorem quo_mag {h l E R : Nat} {v : Int} (p : P128 h l v) (hv : v = (R : Int) * E) (h0 : E ≠ 0) (hR : R < 4611686018427387904) : h < E ∧ (h * 18446744073709551616 + l) / E = R := by
  obtain ⟨a1, a2, a3⟩ := p
  rw [hv, mulN] at a3
  rw [if_neg (by omega)] at a3
  have e : h * 18446744073709551616 + l = R * E := by omega
  have hRE : R * E ≤ 4611686018427387903 * E := Nat.mul_le_mul_right _ (by omega)
  refine ⟨by omega, ?_⟩
  rw [e]
  exact Nat.mul_div_cancel _ (by omega)
set_option maxRecDepth 100000 in
set_option maxHeartbeats 4000000 in
theorem quotient_any (a b c d e r : Int) (ha : a.natAbs ≤ 9007199254740992) (hb : b.natAbs ≤ 9007199254740992) (hc : c.natAbs ≤ 9007199254740992) (hd : d.natAbs ≤ 9007199254740992) (he : e.natAbs ≤ 9007199254740992)
    (h0 : e ≠ 0) (hr : a * b - c * d = r * e) (hrb : r.natAbs < 4611686018427387904) (w : World) :
    Calls Try.prog 34 #[.int .i64 a, .int .i64 b, .int .i64 c, .int .i64 d, .int .i64 e] w fun x w' => x = .returned (.int .i64 r) ∧ ∃ n, w' = w.drewN n := by
  have HA := Lib.hid (show a.natAbs < 4611686018427387904 by omega)
  have HB := Lib.hid (show b.natAbs < 4611686018427387904 by omega)
  have HC := Lib.hid (show c.natAbs < 4611686018427387904 by omega)
  have HD := Lib.hid (show d.natAbs < 4611686018427387904 by omega)
  have b1 : (a * b).natAbs ≤ 9007199254740992 * 9007199254740992 := by rw [Int.natAbs_mul]; exact Nat.mul_le_mul ha hb
  have b2 : (c * d).natAbs ≤ 9007199254740992 * 9007199254740992 := by rw [Int.natAbs_mul]; exact Nat.mul_le_mul hc hd
  have HS := Lib.hid (fun h1 l1 h2 l2 (p1 : P128 h1 l1 (a * b)) (p2 : P128 h2 l2 (c * d)) => P128.sub p1 p2 (by omega) (by omega))
  have hvb : (a * b - c * d).natAbs < 170141183460469231731687303715884105728 := by omega
  have HVB := Lib.hid hvb
  have HTOP := Lib.hid (fun h l (p : P128 h l (a * b - c * d)) => p.top hvb)
  have HR := Lib.hid hr
  have HRB := Lib.hid hrb
  have HE := Lib.hid he
  have HE0 := Lib.hid h0
  have HAB := Lib.hid (Int.natAbs_mul r e)
  clear ha hb hc hd b1 b2 hvb hr hrb he h0
  go_enter Try.func34, Try.ntmps34
  go_wp2_with fail
  refine (product_any a b HA.out HB.out w).mono ?_
  rintro x w1 ⟨h1, l1, rfl, rfl, hp⟩
  have P1 := Lib.hid hp
  clear hp
  go_wp2_with fail
  refine (product_any c d HC.out HD.out w).mono ?_
  rintro x w1 ⟨h2, l2, rfl, rfl, hp⟩
  have P2 := Lib.hid hp
  clear hp
  have p3 := HS.out _ _ _ _ P1.out P2.out
  obtain ⟨br, hbr⟩ : ∃ x, (if l1 < l2 + 0 then 1 else 0 : Nat) = x := ⟨_, rfl⟩
  obtain ⟨l3, hl3⟩ : ∃ x, (l1 + 18446744073709551616 - l2 - 0) % 18446744073709551616 = x := ⟨_, rfl⟩
  have s1 : ∀ w, (callFunc 57 #[.int .u64 (l1 : Int), .int .u64 (l2 : Int), .int .u64 0]).run Try.prog w = .ok (.value (.tuple #[.int .u64 (l3 : Int), .int .u64 (br : Int)])) w := fun w => by
    have := run_sub64 l1 l2 0 (by omega) w
    rw [hl3, hbr] at this
    exact this
  rw [hl3, hbr] at p3
  obtain ⟨h3, hh3⟩ : ∃ x, (h1 + 18446744073709551616 - h2 - br) % 18446744073709551616 = x := ⟨_, rfl⟩
  rw [hh3] at p3
  obtain ⟨bo, hbo⟩ : ∃ x, (if h1 < h2 + br then 1 else 0 : Nat) = x := ⟨_, rfl⟩
  have s2 : ∀ w, (callFunc 57 #[.int .u64 (h1 : Int), .int .u64 (h2 : Int), .int .u64 (br : Int)]).run Try.prog w = .ok (.value (.tuple #[.int .u64 (h3 : Int), .int .u64 (bo : Int)])) w := fun w => by
    have := run_sub64 h1 h2 br (by rw [← hbr]; split <;> omega) w
    rw [hh3, hbo] at this
    exact this
  have t1 := HTOP.out _ _ p3
  have t2 : ((h3 : Int) / 2 ^ 63 == 1) = decide (a * b - c * d < 0) := t1
  have P3 := Lib.hid p3
  clear p3 hbr hl3 hh3 hbo
  obtain ⟨v, hv⟩ : ∃ x, a * b - c * d = x := ⟨_, rfl⟩
  rw [hv] at t1 t2 P3 HVB HR
  clear hv HTOP HS
  by_cases hv0 : v < 0
  · rw [decide_eq_true hv0] at t1 t2
    by_cases e0 : e < 0
    · obtain ⟨E, hE⟩ : ∃ E : Nat, e = -(E : Int) := ⟨e.natAbs, by omega⟩
      obtain ⟨R, hR⟩ : ∃ R : Nat, r = (R : Int) := ⟨r.natAbs, by
        have hh := HR.out
        have hn := HE0.out
        have : 0 ≤ r := Classical.byContradiction fun hr => by have := Int.mul_nonneg (show 0 ≤ -r by omega) (show 0 ≤ -e by omega); rw [Int.neg_mul_neg] at this; omega
        omega⟩
      have HM := Lib.hid (show -v = (R : Int) * E by rw [HR.out, hR, hE, Int.mul_neg, Int.neg_neg])
      have hb1 := HE.out
      have hb2 := HE0.out
      have hb3 := HRB.out
      have HE1 := Lib.hid (show E ≠ 0 by omega)
      have HRR := Lib.hid (show R < 4611686018427387904 by omega)
      have HEL := Lib.hid (show E < 18446744073709551616 by omega)
      have we : IntKind.i64.wrap (-e) = (E : Int) := by rw [IntKind.wrap_i64]; omega
      have te : decide (e < 0) = true := decide_eq_true e0
      have wu : IntKind.u64.wrap (E : Int) = (E : Int) := wrapN _ (by omega)
      have wr : IntKind.i64.wrap (R : Int) = (R : Int) := by rw [IntKind.wrap_i64]; omega
      have wn : IntKind.i64.wrap (-(R : Int)) = -(R : Int) := by rw [IntKind.wrap_i64]; omega
      clear e0 hb1 hb2 hb3 hE hv0
      go_wp2_with (first | rw [s1] | rw [s2])
      refine (P3.out.neg HVB.out w).mono ?_
      rintro x w1 ⟨h4, l4, rfl, rfl, hp⟩
      obtain ⟨q1, q2⟩ := quo_mag hp HM.out HE1.out HRR.out
      have HL4 := Lib.hid hp.2.1
      have g1 : decide ((E : Int) ≤ (h4 : Int)) = false := decide_eq_false (by omega)
      have g2 : decide (E ≤ h4) = false := decide_eq_false (by omega)
      have HQ1 := Lib.hid q1
      have HQ2 := Lib.hid q2
      clear q1 q2 hp
      go_wp2_with fail
      refine (div64_any h4 l4 E HEL.out HE1.out HQ1.out HL4.out w).mono ?_
      rintro x w1 ⟨rfl, n, hw⟩
      have HW := Lib.hid hw
      clear hw
      rw [HQ2.out]
      generalize (((h4 * 18446744073709551616 + l4) % E : Nat) : Int) = rm
      subst hR
      go_wp2_with fail
      go_ret
      exact ⟨rfl, n, HW.out⟩
    · obtain ⟨E, hE⟩ : ∃ E : Nat, e = (E : Int) := ⟨e.natAbs, by omega⟩
      obtain ⟨R, hR⟩ : ∃ R : Nat, r = -(R : Int) := ⟨r.natAbs, by
        have hh := HR.out
        have hn := HE0.out
        have : r ≤ 0 := Classical.byContradiction fun hr => by have := Int.mul_nonneg (show 0 ≤ r by omega) (show 0 ≤ e by omega); omega
        omega⟩
      have HM := Lib.hid (show -v = (R : Int) * E by rw [HR.out, hR, hE, Int.neg_mul, Int.neg_neg])
      have hb1 := HE.out
      have hb2 := HE0.out
      have hb3 := HRB.out
      have HE1 := Lib.hid (show E ≠ 0 by omega)
      have HRR := Lib.hid (show R < 4611686018427387904 by omega)
      have HEL := Lib.hid (show E < 18446744073709551616 by omega)
      subst hE
      have te : decide ((E : Int) < 0) = false := decide_eq_false e0
      have wu : IntKind.u64.wrap (E : Int) = (E : Int) := wrapN _ (by omega)
      have wr : IntKind.i64.wrap (R : Int) = (R : Int) := by rw [IntKind.wrap_i64]; omega
      have wn : IntKind.i64.wrap (-(R : Int)) = -(R : Int) := by rw [IntKind.wrap_i64]; omega
      clear e0 hb1 hb2 hb3 hv0
      go_wp2_with (first | rw [s1] | rw [s2])
      refine (P3.out.neg HVB.out w).mono ?_
      rintro x w1 ⟨h4, l4, rfl, rfl, hp⟩
      obtain ⟨q1, q2⟩ := quo_mag hp HM.out HE1.out HRR.out
      have HL4 := Lib.hid hp.2.1
      have g1 : decide ((E : Int) ≤ (h4 : Int)) = false := decide_eq_false (by omega)
      have g2 : decide (E ≤ h4) = false := decide_eq_false (by omega)
      have HQ1 := Lib.hid q1
      have HQ2 := Lib.hid q2
      clear q1 q2 hp
      go_wp2_with fail
      refine (div64_any h4 l4 E HEL.out HE1.out HQ1.out HL4.out w).mono ?_
      rintro x w1 ⟨rfl, n, hw⟩
      have HW := Lib.hid hw
      clear hw
      rw [HQ2.out]
      generalize (((h4 * 18446744073709551616 + l4) % E : Nat) : Int) = rm
      subst hR
      go_wp2_with fail
      go_ret
      exact ⟨rfl, n, HW.out⟩
  · rw [decide_eq_false hv0] at t1 t2
    by_cases e0 : e < 0
    · obtain ⟨E, hE⟩ : ∃ E : Nat, e = -(E : Int) := ⟨e.natAbs, by omega⟩
      obtain ⟨R, hR⟩ : ∃ R : Nat, r = -(R : Int) := ⟨r.natAbs, by
        have hh := HR.out
        have hn := HE0.out
        have : r ≤ 0 := Classical.byContradiction fun hr => by have := Int.mul_pos (show 0 < r by omega) (show 0 < -e by omega); rw [Int.mul_neg] at this; omega
        omega⟩
      have HM := Lib.hid (show v = (R : Int) * E by rw [HR.out, hR, hE, Int.neg_mul_neg])
      have hb1 := HE.out
      have hb2 := HE0.out
      have hb3 := HRB.out
      have HE1 := Lib.hid (show E ≠ 0 by omega)
      have HRR := Lib.hid (show R < 4611686018427387904 by omega)
      have HEL := Lib.hid (show E < 18446744073709551616 by omega)
      have we : IntKind.i64.wrap (-e) = (E : Int) := by rw [IntKind.wrap_i64]; omega
      have te : decide (e < 0) = true := decide_eq_true e0
      have wu : IntKind.u64.wrap (E : Int) = (E : Int) := wrapN _ (by omega)
      have wr : IntKind.i64.wrap (R : Int) = (R : Int) := by rw [IntKind.wrap_i64]; omega
      have wn : IntKind.i64.wrap (-(R : Int)) = -(R : Int) := by rw [IntKind.wrap_i64]; omega
      clear e0 hb1 hb2 hb3 hE hv0
      obtain ⟨q1, q2⟩ := quo_mag P3.out HM.out HE1.out HRR.out
      have HL4 := Lib.hid P3.out.2.1
      have g1 : decide ((E : Int) ≤ (h3 : Int)) = false := decide_eq_false (by omega)
      have g2 : decide (E ≤ h3) = false := decide_eq_false (by omega)
      have HQ1 := Lib.hid q1
      have HQ2 := Lib.hid q2
      clear q1 q2
      go_wp2_with (first | rw [s1] | rw [s2])
      refine (div64_any h3 l3 E HEL.out HE1.out HQ1.out HL4.out w).mono ?_
      rintro x w1 ⟨rfl, n, hw⟩
      have HW := Lib.hid hw
      clear hw
      rw [HQ2.out]
      generalize (((h3 * 18446744073709551616 + l3) % E : Nat) : Int) = rm
      subst hR
      go_wp2_with fail
      go_ret
      exact ⟨rfl, n, HW.out⟩
    · obtain ⟨E, hE⟩ : ∃ E : Nat, e = (E : Int) := ⟨e.natAbs, by omega⟩
      obtain ⟨R, hR⟩ : ∃ R : Nat, r = (R : Int) := ⟨r.natAbs, by
        have hh := HR.out
        have hn := HE0.out
        have : 0 ≤ r := Classical.byContradiction fun hr => by have := Int.mul_pos (show 0 < -r by omega) (show 0 < e by omega); rw [Int.neg_mul] at this; omega
        omega⟩
      have HM := Lib.hid (show v = (R : Int) * E by rw [HR.out, hR, hE])
      have hb1 := HE.out
      have hb2 := HE0.out
      have hb3 := HRB.out
      have HE1 := Lib.hid (show E ≠ 0 by omega)
      have HRR := Lib.hid (show R < 4611686018427387904 by omega)
      have HEL := Lib.hid (show E < 18446744073709551616 by omega)
      subst hE
      have te : decide ((E : Int) < 0) = false := decide_eq_false e0
      have wu : IntKind.u64.wrap (E : Int) = (E : Int) := wrapN _ (by omega)
      have wr : IntKind.i64.wrap (R : Int) = (R : Int) := by rw [IntKind.wrap_i64]; omega
      have wn : IntKind.i64.wrap (-(R : Int)) = -(R : Int) := by rw [IntKind.wrap_i64]; omega
      clear e0 hb1 hb2 hb3 hv0
      obtain ⟨q1, q2⟩ := quo_mag P3.out HM.out HE1.out HRR.out
      have HL4 := Lib.hid P3.out.2.1
      have g1 : decide ((E : Int) ≤ (h3 : Int)) = false := decide_eq_false (by omega)
      have g2 : decide (E ≤ h3) = false := decide_eq_false (by omega)
      have HQ1 := Lib.hid q1
      have HQ2 := Lib.hid q2
      clear q1 q2
      go_wp2_with (first | rw [s1] | rw [s2])
      refine (div64_any h3 l3 E HEL.out HE1.out HQ1.out HL4.out w).mono ?_
      rintro x w1 ⟨rfl, n, hw⟩
      have HW := Lib.hid hw
      clear hw
      rw [HQ2.out]
      generalize (((h3 * 18446744073709551616 + l3) % E : Nat) : Int) = rm
      subst hR
      go_wp2_with fail
      go_ret
      exact ⟨rfl, n, HW.out⟩
end Go.Proofs.Yteanhbldhaiekaa
namespace Go.Proofs.Yteanhbldhaiekaa
open Go.RowKit

/-- where all lies -/
structure Ly where
  (ba bd bb bp bq bA bD : Nat)
  (bs cp : Nat → Nat)
  (P Q : Option Addr)
structure EW (w : World) (L : Ly) (n : Nat) (a : Mx) (dn : Nat → Bool) (b : Int) (p q : Nat) : Prop where
  ca : w.cell? ⟨L.ba, 0, none⟩ = some (.slice L.P n n)
  cd : w.cell? ⟨L.bd, 0, none⟩ = some (.slice L.Q n n)
  cb : w.cell? ⟨L.bb, 0, none⟩ = some (.int .i64 b)
  cp : w.cell? ⟨L.bp, 0, none⟩ = some (.int .i64 p)
  cq : w.cell? ⟨L.bq, 0, none⟩ = some (.int .i64 q)
  fb : w.frozen? ⟨L.bb, 0, none⟩ = false
  fp : w.frozen? ⟨L.bp, 0, none⟩ = false
  fq : w.frozen? ⟨L.bq, 0, none⟩ = false
  tp : 0 < n → L.P = some ⟨L.bA, 0, none⟩ ∧ L.Q = some ⟨L.bD, 0, none⟩
  hd : ∀ i, i < n → w.cell? ⟨L.bA, i, none⟩ = some (.slice (some ⟨L.bs i, 0, none⟩) n (L.cp i))
  en : ∀ i j, i < n → j < n → w.cell? ⟨L.bs i, j, none⟩ = some (.int .i64 (a i j))
  fr : ∀ i j, i < n → j < n → w.frozen? ⟨L.bs i, j, none⟩ = false
  dc : ∀ i, i < n → w.cell? ⟨L.bD, i, none⟩ = some (.bool (dn i))
  fd : ∀ i, i < n → w.frozen? ⟨L.bD, i, none⟩ = false
  od : L.bp < L.bq ∧ L.bq < L.bA ∧ L.bA < L.ba ∧ L.ba < L.bD ∧ L.bD < L.bd ∧ L.bd < L.bb ∧ L.bb < w.heap.size
  os : ∀ i, i < n → L.ba < L.bs i ∧ L.bs i < L.bD
  oi : ∀ i j, i < j → j < n → L.bs i < L.bs j
theorem cell_ne {w : World} {b c j k : Nat} {v : Value} (h : b ≠ c) : (w.setCell ⟨b, j, none⟩ v).cell? ⟨c, k, none⟩ = w.cell? ⟨c, k, none⟩ := set_other fun e => by injection e with e; exact h e
theorem cell_ne' {w : World} {b j k : Nat} {v : Value} (h : j ≠ k) : (w.setCell ⟨b, j, none⟩ v).cell? ⟨b, k, none⟩ = w.cell? ⟨b, k, none⟩ := set_other fun e => by injection e with _ e; exact h e
section
variable {w w' : World} {L : Ly} {n : Nat} {a : Mx} {dn : Nat → Bool} {b : Int} {p q : Nat}
theorem EW.heap (h : EW w L n a dn b p q) (e : w'.heap = w.heap) : EW w' L n a dn b p q := by
  have c : ∀ x, w'.cell? x = w.cell? x := fun x => World.cell?_of_block (by rw [e])
  have f : ∀ x, w'.frozen? x = w.frozen? x := fun x => World.frozen?_of_block (by rw [e])
  exact ⟨by rw [c]; exact h.ca, by rw [c]; exact h.cd, by rw [c]; exact h.cb, by rw [c]; exact h.cp, by rw [c]; exact h.cq, by rw [f]; exact h.fb, by rw [f]; exact h.fp, by rw [f]; exact h.fq, h.tp, fun i hi => by rw [c]; exact h.hd i hi,
    fun i j hi hj => by rw [c]; exact h.en i j hi hj, fun i j hi hj => by rw [f]; exact h.fr i j hi hj, fun i hi => by rw [c]; exact h.dc i hi, fun i hi => by rw [f]; exact h.fd i hi, by rw [e]; exact h.od, h.os, h.oi⟩
theorem EW.drewN (h : EW w L n a dn b p q) (k : Nat) : EW (w.drewN k) L n a dn b p q := h.heap rfl
theorem EW.congr {a' : Mx} {dn' : Nat → Bool} (h : EW w L n a dn b p q) (he : ∀ i j, i < n → j < n → a i j = a' i j) (hd : ∀ i, i < n → dn i = dn' i) : EW w L n a' dn' b p q :=
  { h with en := fun i j hi hj => by rw [← he i j hi hj]; exact h.en i j hi hj, dc := fun i hi => by rw [← hd i hi]; exact h.dc i hi }
theorem EW.bsne (h : EW w L n a dn b p q) {i j : Nat} (hi : i < n) (hj : j < n) (hne : i ≠ j) : L.bs i ≠ L.bs j := by
  rcases Nat.lt_or_gt_of_ne hne with k | k
  · have := h.oi i j k hj; omega
  · have := h.oi j i k hi; omega
theorem EW.store (h : EW w L n a dn b p q) {i j : Nat} (hi : i < n) (hj : j < n) (v : Int) :
    EW (w.setCell ⟨L.bs i, j, none⟩ (.int .i64 v)) L n (fun x y => if x = i ∧ y = j then v else a x y) dn b p q := by
  obtain ⟨o1, o2, o3, o4, o5, o6, o7⟩ := h.od
  obtain ⟨s1, s2⟩ := h.os i hi
  refine ⟨by rw [cell_ne (by omega)]; exact h.ca, by rw [cell_ne (by omega)]; exact h.cd, by rw [cell_ne (by omega)]; exact h.cb, by rw [cell_ne (by omega)]; exact h.cp, by rw [cell_ne (by omega)]; exact h.cq, by rw [World.frozen?_setCell]; exact h.fb,
    by rw [World.frozen?_setCell]; exact h.fp, by rw [World.frozen?_setCell]; exact h.fq, h.tp, fun x hx => by rw [cell_ne (by omega)]; exact h.hd x hx, fun x y hx hy => ?_, fun x y hx hy => by rw [World.frozen?_setCell]; exact h.fr x y hx hy,
    fun x hx => by rw [cell_ne (by omega)]; exact h.dc x hx, fun x hx => by rw [World.frozen?_setCell]; exact h.fd x hx, by rw [World.size_setCell]; exact h.od, h.os, h.oi⟩
  by_cases e : x = i ∧ y = j
  · obtain ⟨rfl, rfl⟩ := e
    rw [if_pos ⟨rfl, rfl⟩]
    exact set_same (h.en x y hx hy)
  · rw [if_neg e]
    by_cases ex : x = i
    · subst ex
      rw [cell_ne' (by omega)]
      exact h.en x y hx hy
    · rw [cell_ne (h.bsne hi hx (Ne.symm ex))]
      exact h.en x y hx hy
theorem EW.dset (h : EW w L n a dn b p q) {i : Nat} (hi : i < n) (v : Bool) : EW (w.setCell ⟨L.bD, i, none⟩ (.bool v)) L n a (fun x => if x = i then v else dn x) b p q := by
  obtain ⟨o1, o2, o3, o4, o5, o6, o7⟩ := h.od
  refine ⟨by rw [cell_ne (by omega)]; exact h.ca, by rw [cell_ne (by omega)]; exact h.cd, by rw [cell_ne (by omega)]; exact h.cb, by rw [cell_ne (by omega)]; exact h.cp, by rw [cell_ne (by omega)]; exact h.cq, by rw [World.frozen?_setCell]; exact h.fb,
    by rw [World.frozen?_setCell]; exact h.fp, by rw [World.frozen?_setCell]; exact h.fq, h.tp, fun x hx => by rw [cell_ne (by omega)]; exact h.hd x hx, fun x y hx hy => by have := h.os x hx; rw [cell_ne (by omega)]; exact h.en x y hx hy,
    fun x y hx hy => by rw [World.frozen?_setCell]; exact h.fr x y hx hy, fun x hx => ?_, fun x hx => by rw [World.frozen?_setCell]; exact h.fd x hx, by rw [World.size_setCell]; exact h.od, h.os, h.oi⟩
  by_cases e : x = i
  · subst e
    rw [if_pos rfl]
    exact set_same (h.dc x hx)
  · rw [if_neg e, cell_ne' (Ne.symm e)]
    exact h.dc x hx
theorem EW.bset (h : EW w L n a dn b p q) (v : Int) : EW (w.setCell ⟨L.bb, 0, none⟩ (.int .i64 v)) L n a dn v p q := by
  obtain ⟨o1, o2, o3, o4, o5, o6, o7⟩ := h.od
  exact ⟨by rw [cell_ne (by omega)]; exact h.ca, by rw [cell_ne (by omega)]; exact h.cd, set_same h.cb, by rw [cell_ne (by omega)]; exact h.cp, by rw [cell_ne (by omega)]; exact h.cq, by rw [World.frozen?_setCell]; exact h.fb,
    by rw [World.frozen?_setCell]; exact h.fp, by rw [World.frozen?_setCell]; exact h.fq, h.tp, fun x hx => by rw [cell_ne (by omega)]; exact h.hd x hx, fun x y hx hy => by have := h.os x hx; rw [cell_ne (by omega)]; exact h.en x y hx hy,
    fun x y hx hy => by rw [World.frozen?_setCell]; exact h.fr x y hx hy, fun x hx => by rw [cell_ne (by omega)]; exact h.dc x hx, fun x hx => by rw [World.frozen?_setCell]; exact h.fd x hx, by rw [World.size_setCell]; exact h.od, h.os, h.oi⟩
theorem EW.pset (h : EW w L n a dn b p q) (v : Nat) : EW (w.setCell ⟨L.bp, 0, none⟩ (.int .i64 v)) L n a dn b v q := by
  obtain ⟨o1, o2, o3, o4, o5, o6, o7⟩ := h.od
  exact ⟨by rw [cell_ne (by omega)]; exact h.ca, by rw [cell_ne (by omega)]; exact h.cd, by rw [cell_ne (by omega)]; exact h.cb, set_same h.cp, by rw [cell_ne (by omega)]; exact h.cq, by rw [World.frozen?_setCell]; exact h.fb,
    by rw [World.frozen?_setCell]; exact h.fp, by rw [World.frozen?_setCell]; exact h.fq, h.tp, fun x hx => by rw [cell_ne (by omega)]; exact h.hd x hx, fun x y hx hy => by have := h.os x hx; rw [cell_ne (by omega)]; exact h.en x y hx hy,
    fun x y hx hy => by rw [World.frozen?_setCell]; exact h.fr x y hx hy, fun x hx => by rw [cell_ne (by omega)]; exact h.dc x hx, fun x hx => by rw [World.frozen?_setCell]; exact h.fd x hx, by rw [World.size_setCell]; exact h.od, h.os, h.oi⟩
theorem EW.qset (h : EW w L n a dn b p q) (v : Nat) : EW (w.setCell ⟨L.bq, 0, none⟩ (.int .i64 v)) L n a dn b p v := by
  obtain ⟨o1, o2, o3, o4, o5, o6, o7⟩ := h.od
  exact ⟨by rw [cell_ne (by omega)]; exact h.ca, by rw [cell_ne (by omega)]; exact h.cd, by rw [cell_ne (by omega)]; exact h.cb, by rw [cell_ne (by omega)]; exact h.cp, set_same h.cq, by rw [World.frozen?_setCell]; exact h.fb,
    by rw [World.frozen?_setCell]; exact h.fp, by rw [World.frozen?_setCell]; exact h.fq, h.tp, fun x hx => by rw [cell_ne (by omega)]; exact h.hd x hx, fun x y hx hy => by have := h.os x hx; rw [cell_ne (by omega)]; exact h.en x y hx hy,
    fun x y hx hy => by rw [World.frozen?_setCell]; exact h.fr x y hx hy, fun x hx => by rw [cell_ne (by omega)]; exact h.dc x hx, fun x hx => by rw [World.frozen?_setCell]; exact h.fd x hx, by rw [World.size_setCell]; exact h.od, h.os, h.oi⟩
end
/-! ### diagonal -/
set_option maxHeartbeats 2000000 in
theorem diagonal_any {w : World} {L : Ly} {n : Nat} {a : Mx} {dn : Nat → Bool} {b : Int} {p q : Nat} (h : EW w L n a dn b p q) (hn : n ≤ 64) :
    Calls Try.prog 35 #[.slice L.P n n, .slice L.Q n n] w fun e w' => w = w' ∧ ((∃ i, i < n ∧ dn i = false ∧ a i i ≠ 0 ∧ e = .returned (.tuple #[.int .i64 i, .bool true])) ∨ ((∀ i, i < n → dn i = false → a i i = 0) ∧ e = .returned (.tuple #[.int .i64 0, .bool false]))) := by
  have HE := Lib.hid h
  clear h
  go_enter Try.func35, Try.ntmps35
  go_wp2_with fail
  go_loopw [9] (fun i' wr => ∃ i : Nat, i' = .int .i64 i ∧ i ≤ n ∧ w = wr ∧ Hid (∀ j, j < i → dn j = false → a j j = 0)) (fun i _ => n - (intOf i).toNat)
  case atStart => exact ⟨0, rfl, Nat.zero_le _, rfl, Lib.hid fun j hj => absurd hj (Nat.not_lt_zero _)⟩
  case round =>
    obtain ⟨i, rfl, hin, rfl, HZ⟩ := hrel
    by_cases hlt : i < n
    · obtain ⟨t1, t2⟩ := HE.out.tp (by omega)
      rw [t1, t2]
      have h1 := HE.out.hd i hlt
      have h2 := HE.out.en i i hlt hlt
      have h3 := HE.out.dc i hlt
      clear t1 t2
      obtain ⟨v, hv⟩ : ∃ v, a i i = v := ⟨_, rfl⟩
      rw [hv] at h2
      have HV := Lib.hid hv
      clear hv
      cases hd : dn i
      · rw [hd] at h3
        have HD := Lib.hid hd
        clear hd
        by_cases hz : v = 0
        · subst hz
          have HN : Hid (∀ j, j < i + 1 → dn j = false → a j j = 0) := Lib.hid fun j hj hd => by
            by_cases e : j = i
            · rw [e]; exact HV.out
            · exact HZ.out j (by omega) hd
          go_wp2_with fail
          go_roundw
          case rel => exact ⟨i + 1, by go_num, by omega, by trivial, HN⟩
          case measure => simp [intOf]; omega
        · have hv' : (v != 0) = true := by rw [bne_iff_ne]; exact hz
          have HZV := Lib.hid hz
          clear hz
          go_wp2_with fail
          go_ret2
          exact ⟨rfl, Or.inl ⟨i, hlt, HD.out, by rw [HV.out]; exact HZV.out, rfl⟩⟩
      · rw [hd] at h3
        have HD := Lib.hid hd
        clear hd
        have HN : Hid (∀ j, j < i + 1 → dn j = false → a j j = 0) := Lib.hid fun j hj hd => by
          by_cases e : j = i
          · rw [e, HD.out] at hd; exact absurd hd (by decide)
          · exact HZ.out j (by omega) hd
        go_wp2_with fail
        go_roundw
        case rel => exact ⟨i + 1, by go_num, by omega, by trivial, HN⟩
        case measure => simp [intOf]; omega
    · obtain rfl : i = n := by omega
      go_wp2_with fail
      go_ret2
      exact ⟨rfl, Or.inr ⟨HZ.out, rfl⟩⟩
/-! ### pair -/
set_option maxHeartbeats 4000000 in
theorem pair_any {w : World} {L : Ly} {n : Nat} {a : Mx} {dn : Nat → Bool} {b : Int} {p q : Nat} (h : EW w L n a dn b p q) (hn : n ≤ 64) :
    Calls Try.prog 36 #[.slice L.P n n, .slice L.Q n n] w fun e w' => w = w' ∧ ((∃ i j, i < n ∧ j < n ∧ dn i = false ∧ dn j = false ∧ a i j ≠ 0 ∧ e = .returned (.tuple #[.int .i64 i, .int .i64 j, .bool true])) ∨
      ((∀ i j, i < n → j < n → dn i = false → dn j = false → a i j = 0) ∧ e = .returned (.tuple #[.int .i64 0, .int .i64 0, .bool false]))) := by
  have HE := Lib.hid h
  clear h
  go_enter Try.func36, Try.ntmps36
  go_wp2_with fail
  go_loopw [11] (fun i' wr => ∃ i : Nat, i' = .int .i64 i ∧ i ≤ n ∧ w = wr ∧ Hid (∀ x j, x < i → j < n → dn x = false → dn j = false → a x j = 0)) (fun i _ => n - (intOf i).toNat)
  case atStart => exact ⟨0, rfl, Nat.zero_le _, rfl, Lib.hid fun x j hj => absurd hj (Nat.not_lt_zero _)⟩
  case round =>
    obtain ⟨i, rfl, hin, rfl, HZ⟩ := hrel
    by_cases hlt : i < n
    · go_wp2_with fail
      go_loopw [16] (fun j' wr => ∃ j : Nat, j' = .int .i64 j ∧ j ≤ n ∧ w = wr ∧ Hid (∀ y, y < j → dn i = false → dn y = false → a i y = 0)) (fun j _ => n - (intOf j).toNat)
      case atStart => exact ⟨0, rfl, Nat.zero_le _, rfl, Lib.hid fun y hj => absurd hj (Nat.not_lt_zero _)⟩
      case round =>
        obtain ⟨j, rfl, hjn, rfl, HY⟩ := hrel
        by_cases hjl : j < n
        · obtain ⟨t1, t2⟩ := HE.out.tp (by omega)
          rw [t1, t2]
          have h1 := HE.out.hd i hlt
          have h2 := HE.out.en i j hlt hjl
          have h3 := HE.out.dc i hlt
          have h4 := HE.out.dc j hjl
          clear t1 t2
          obtain ⟨v, hv⟩ : ∃ v, a i j = v := ⟨_, rfl⟩
          rw [hv] at h2
          have HV := Lib.hid hv
          clear hv
          obtain ⟨d1, hd1⟩ : ∃ d, dn i = d := ⟨_, rfl⟩
          obtain ⟨d2, hd2⟩ : ∃ d, dn j = d := ⟨_, rfl⟩
          rw [hd1] at h3
          rw [hd2] at h4
          have HD1 := Lib.hid hd1
          have HD2 := Lib.hid hd2
          clear hd1 hd2
          by_cases hgo : d1 = false ∧ d2 = false ∧ v ≠ 0
          · obtain ⟨rfl, rfl, hz⟩ := hgo
            have hv' : (v != 0) = true := by rw [bne_iff_ne]; exact hz
            have HZV := Lib.hid hz
            clear hz
            go_wp2_with fail
            go_ret3
            exact ⟨rfl, Or.inl ⟨i, j, hlt, hjl, HD1.out, HD2.out, by rw [HV.out]; exact HZV.out, rfl⟩⟩
          · have HN : Hid (∀ y, y < j + 1 → dn i = false → dn y = false → a i y = 0) := Lib.hid fun y hy e1 e2 => by
              by_cases e : y = j
              · subst e
                rw [HD1.out] at e1
                rw [HD2.out] at e2
                rw [HV.out]
                exact Classical.byContradiction fun hz => hgo ⟨e1, e2, hz⟩
              · exact HY.out y (by omega) e1 e2
            cases d1
            · cases d2
              · obtain rfl : v = 0 := Classical.byContradiction fun hz => hgo ⟨rfl, rfl, hz⟩
                clear hgo
                go_wp2_with fail
                go_roundw
                case rel => exact ⟨j + 1, by go_num, by omega, by trivial, HN⟩
                case measure => simp [intOf]; omega
              · clear hgo
                go_wp2_with fail
                go_roundw
                case rel => exact ⟨j + 1, by go_num, by omega, by trivial, HN⟩
                case measure => simp [intOf]; omega
            · clear hgo
              go_wp2_with fail
              go_roundw
              case rel => exact ⟨j + 1, by go_num, by omega, by trivial, HN⟩
              case measure => simp [intOf]; omega
        · obtain rfl : j = n := by omega
          have HN : Hid (∀ x y, x < i + 1 → y < j → dn x = false → dn y = false → a x y = 0) := Lib.hid fun x y hx hy e1 e2 => by
            by_cases e : x = i
            · subst e; exact HY.out y hy e1 e2
            · exact HZ.out x y (by omega) hy e1 e2
          go_wp2_with fail
          go_roundw
          case rel => exact ⟨i + 1, by go_num, by omega, by trivial, HN⟩
          case measure => simp [intOf]; omega
    · obtain rfl : i = n := by omega
      go_wp2_with fail
      go_ret3
      exact ⟨rfl, Or.inr ⟨HZ.out, rfl⟩⟩
end Go.Proofs.Yteanhbldhaiekaa
namespace Go.Proofs.Yteanhbldhaiekaa
open Go.RowKit

/-- the columns before t of row i with row j added; the rows before t of column i with column j added -/
def ad1 (i j t : Nat) (a : Mx) : Mx := fun x y => if x = i ∧ y < t then IntKind.i64.wrap (a i y + a j y) else a x y
def ad2 (i j t : Nat) (a : Mx) : Mx := fun x y => if y = i ∧ x < t then IntKind.i64.wrap (a x i + a x j) else a x y
set_option maxHeartbeats 4000000 in
theorem add_any {w : World} {L : Ly} {n : Nat} {a : Mx} {dn : Nat → Bool} {b : Int} {p q : Nat} (h : EW w L n a dn b p q) (hn : n ≤ 64) {i j : Nat} (hi : i < n) (hj : j < n) :
    Calls Try.prog 32 #[.int .i64 i, .int .i64 j, .pointer (some ⟨L.ba, 0, none⟩)] w fun e w' => e = .returned (.tuple #[]) ∧ EW w' L n (ad2 i j n (ad1 i j n a)) dn b p q ∧ Below L.bp w w' := by
  have HE := Lib.hid h
  obtain ⟨t1, t2⟩ := h.tp (by omega)
  have hca := h.ca
  rw [t1] at hca
  have HT := Lib.hid t1
  have hle : L.bp ≤ w.heap.size := by have := h.od; omega
  have HLE := Lib.hid hle
  clear h t1 t2 hle
  go_enter Try.func32, Try.ntmps32
  go_wp2_with fail
  go_loopw [9] (fun k' wr => ∃ k : Nat, k' = .int .i64 k ∧ k ≤ n ∧ Hid (EW wr L n (ad1 i j k a) dn b p q) ∧ Hid (Below L.bp w wr)) (fun k _ => n - (intOf k).toNat)
  case atStart => exact ⟨0, rfl, Nat.zero_le _, Lib.hid (HE.out.congr (fun x y _ _ => by unfold ad1; rw [if_neg (by omega)]) fun _ _ => rfl), Lib.hid (Below.refl _ _)⟩
  case round =>
    obtain ⟨k, rfl, hkn, HX, HB⟩ := hrel
    have hca := HX.out.ca
    rw [HT.out] at hca
    by_cases hlt : k < n
    · have h1 := HX.out.hd i hi
      have h2 := HX.out.hd j hj
      have h3 := HX.out.en i k hi hlt
      have h4 := HX.out.en j k hj hlt
      have h5 := HX.out.fr i k hi hlt
      have e1 : ad1 i j k a i k = a i k := if_neg (by omega)
      have e2 : ad1 i j k a j k = a j k := if_neg (by omega)
      rw [e1] at h3
      rw [e2] at h4
      obtain ⟨v1, hv1⟩ : ∃ v, a i k = v := ⟨_, rfl⟩
      obtain ⟨v2, hv2⟩ : ∃ v, a j k = v := ⟨_, rfl⟩
      obtain ⟨v3, hv3⟩ : ∃ v, IntKind.i64.wrap (v1 + v2) = v := ⟨_, rfl⟩
      rw [hv1] at h3
      rw [hv2] at h4
      have HN : Hid (EW (wr.setCell ⟨L.bs i, k, none⟩ (.int .i64 v3)) L n (ad1 i j (k + 1) a) dn b p q) := Lib.hid ((HX.out.store hi hlt v3).congr (fun x y _ _ => by
        unfold ad1
        by_cases e : x = i ∧ y = k
        · rw [if_pos e, if_pos ⟨e.1, by omega⟩, e.2, hv1, hv2, hv3]
        · rw [if_neg e]
          by_cases e3 : x = i ∧ y < k
          · rw [if_pos e3, if_pos ⟨e3.1, by omega⟩]
          · rw [if_neg e3, if_neg (by omega)]) fun _ _ => rfl)
      have hsle : L.bp ≤ L.bs i := by have := HX.out.od; have := HX.out.os i hi; omega
      have HNB : Hid (Below L.bp w (wr.setCell ⟨L.bs i, k, none⟩ (.int .i64 v3))) := Lib.hid (HB.out.setCell (p := ⟨L.bs i, k, none⟩) hsle _)
      clear e1 e2 hv1 hv2 hsle
      go_wp2_with fail
      go_region
      all_goals
        go_wp2_with fail
        go_roundw
        case rel => exact ⟨k + 1, by go_num, by omega, Lib.hid (HN.out.heap rfl), Lib.hid (HNB.out.trans ⟨rfl, rfl, rfl, Nat.le_refl _, fun _ _ => rfl⟩)⟩
        case measure => simp [intOf]; omega
    · obtain rfl : k = n := by omega
      have HX0 : Hid (EW wr L k (ad2 i j 0 (ad1 i j k a)) dn b p q) := Lib.hid (HX.out.congr (fun x y _ _ => by unfold ad2; rw [if_neg (by omega)]) fun _ _ => rfl)
      clear HX
      obtain ⟨a1, ha1⟩ : ∃ z, ad1 i j k a = z := ⟨_, rfl⟩
      rw [ha1] at HX0
      have HA1 := Lib.hid ha1
      clear ha1
      go_wp2_with fail
      go_loopw [31] (fun t' wr => ∃ t : Nat, t' = .int .i64 t ∧ t ≤ k ∧ Hid (EW wr L k (ad2 i j t a1) dn b p q) ∧ Hid (Below L.bp w wr)) (fun t _ => k - (intOf t).toNat)
      case atStart => exact ⟨0, rfl, Nat.zero_le _, HX0, HB⟩
      case round =>
        clear HX0 HB
        obtain ⟨t, rfl, htn, HX, HB⟩ := hrel
        have hca := HX.out.ca
        rw [HT.out] at hca
        by_cases hlt : t < k
        · have h1 := HX.out.hd t hlt
          have h3 := HX.out.en t i hlt hi
          have h4 := HX.out.en t j hlt hj
          have h5 := HX.out.fr t i hlt hi
          have e1 : ad2 i j t a1 t i = a1 t i := if_neg (by omega)
          have e2 : ad2 i j t a1 t j = a1 t j := if_neg (by omega)
          rw [e1] at h3
          rw [e2] at h4
          obtain ⟨v1, hv1⟩ : ∃ v, a1 t i = v := ⟨_, rfl⟩
          obtain ⟨v2, hv2⟩ : ∃ v, a1 t j = v := ⟨_, rfl⟩
          obtain ⟨v3, hv3⟩ : ∃ v, IntKind.i64.wrap (v1 + v2) = v := ⟨_, rfl⟩
          rw [hv1] at h3
          rw [hv2] at h4
          have HN : Hid (EW (wr.setCell ⟨L.bs t, i, none⟩ (.int .i64 v3)) L k (ad2 i j (t + 1) a1) dn b p q) := Lib.hid ((HX.out.store hlt hi v3).congr (fun x y _ _ => by
            unfold ad2
            by_cases e : x = t ∧ y = i
            · rw [if_pos e, if_pos ⟨e.2, by omega⟩, e.1, hv1, hv2, hv3]
            · rw [if_neg e]
              by_cases e3 : y = i ∧ x < t
              · rw [if_pos e3, if_pos ⟨e3.1, by omega⟩]
              · rw [if_neg e3, if_neg (by omega)]) fun _ _ => rfl)
          have hsle : L.bp ≤ L.bs t := by have := HX.out.od; have := HX.out.os t hlt; omega
          have HNB : Hid (Below L.bp w (wr.setCell ⟨L.bs t, i, none⟩ (.int .i64 v3))) := Lib.hid (HB.out.setCell (p := ⟨L.bs t, i, none⟩) hsle _)
          clear e1 e2 hv1 hv2 hsle
          go_wp2_with fail
          go_region
          all_goals
            go_wp2_with fail
            go_roundw
            case rel => exact ⟨t + 1, by go_num, by omega, Lib.hid (HN.out.heap rfl), Lib.hid (HNB.out.trans ⟨rfl, rfl, rfl, Nat.le_refl _, fun _ _ => rfl⟩)⟩
            case measure => simp [intOf]; omega
        · obtain rfl : t = k := by omega
          go_wp2_with fail
          refine bodyPost_end (results_none rfl _ _ _) rfl ?_
          rw [HA1.out]
          exact ⟨rfl, HX.out, HB.out⟩
/-- before row s, and in it before column t, what is not done is r -/
def el1 (dn : Nat → Bool) (r : Mx) (s t : Nat) (a : Mx) : Mx := fun x y => if dn x = false ∧ dn y = false ∧ (x < s ∨ x = s ∧ y < t) then r x y else a x y
def elA (dn : Nat → Bool) (r a : Mx) : Mx := fun x y => if dn x = false ∧ dn y = false then r x y else a x y
def dnP (p0 : Nat) (dn : Nat → Bool) : Nat → Bool := fun x => if x = p0 then true else dn x
/-- the division at i, j is exact, and no number is too great -/
structure QD (a : Mx) (b : Int) (r : Mx) (p0 i j : Nat) : Prop where
  h1 : (a i j).natAbs ≤ 9007199254740992
  h2 : (a i p0).natAbs ≤ 9007199254740992
  h3 : (a p0 j).natAbs ≤ 9007199254740992
  eq : a p0 p0 * a i j - a i p0 * a p0 j = r i j * b
  hr : (r i j).natAbs < 4611686018427387904
set_option maxHeartbeats 8000000 in
theorem elim_any {w : World} {L : Ly} {n : Nat} {a r : Mx} {dn : Nat → Bool} {b : Int} {p q : Nat} (h : EW w L n a dn b p q) (hn : n ≤ 64) (hp : p ≤ 64) (hq : q ≤ 64) {p0 : Nat} (hp0 : p0 < n) (hb : b.natAbs ≤ 9007199254740992) (hb0 : b ≠ 0) (hpv : (a p0 p0).natAbs ≤ 9007199254740992)
    (hQ : ∀ i j, i < n → j < n → dnP p0 dn i = false → dnP p0 dn j = false → QD a b r p0 i j) :
    Calls Try.prog 33 #[.int .i64 p0, .pointer (some ⟨L.bd, 0, none⟩), .pointer (some ⟨L.ba, 0, none⟩), .pointer (some ⟨L.bb, 0, none⟩), .pointer (some ⟨L.bp, 0, none⟩), .pointer (some ⟨L.bq, 0, none⟩)] w
      fun e w' => e = .returned (.tuple #[]) ∧ EW w' L n (elA (dnP p0 dn) r a) (dnP p0 dn) (a p0 p0) (p + if (0 < a p0 p0 ↔ 0 < b) then 1 else 0) (q + if (0 < a p0 p0 ↔ 0 < b) then 0 else 1) ∧ Below L.bp w w' := by
  have HE := Lib.hid h
  have HQ := Lib.hid hQ
  have HB0 := Lib.hid hb
  have HBZ := Lib.hid hb0
  have HPV := Lib.hid hpv
  obtain ⟨t1, t2⟩ := h.tp (by omega)
  have hca := h.ca
  have hcd := h.cd
  rw [t1] at hca
  rw [t2] at hcd
  have HT := Lib.hid (And.intro t1 t2)
  have hle : L.bp ≤ w.heap.size := by have := h.od; omega
  have HLE := Lib.hid hle
  have HO := Lib.hid h.od
  have hdp := h.dc p0 hp0
  have hfp := h.fd p0 hp0
  have hw1 := h.dset hp0 true
  have HW1 : Hid (EW (w.setCell ⟨L.bD, p0, none⟩ (.bool true)) L n a (dnP p0 dn) b p q) := Lib.hid hw1
  have HBL1 : Hid (Below L.bp w (w.setCell ⟨L.bD, p0, none⟩ (.bool true))) := Lib.hid ((Below.refl _ w).setCell (p := ⟨L.bD, p0, none⟩) (by have := HO.out; show L.bp ≤ L.bD; omega) _)
  obtain ⟨pv, hpv'⟩ : ∃ v, a p0 p0 = v := ⟨_, rfl⟩
  have c1 := hw1.ca
  have c2 := hw1.hd p0 hp0
  have c3 := hw1.en p0 p0 hp0 hp0
  have c4 := hw1.cb
  rw [t1] at c1
  rw [hpv'] at c3
  have HPE := Lib.hid hpv'
  clear h hQ hb hb0 hpv t1 t2 hle hw1 hpv' hca
  obtain ⟨s1, hs1⟩ : ∃ x, decide (0 < pv) = x := ⟨_, rfl⟩
  obtain ⟨s2, hs2⟩ : ∃ x, decide (0 < b) = x := ⟨_, rfl⟩
  have HSG : Hid ((0 < a p0 p0 ↔ 0 < b) ↔ s1 = s2) := by
    rw [HPE.out, ← hs1, ← hs2]
    exact ⟨fun h => decide_eq_decide.2 h, fun h => decide_eq_decide.1 h⟩
  go_enter Try.func33, Try.ntmps33
  go_upto_if 24 with fail
  generalize w.setCell ⟨L.bD, p0, none⟩ (.bool true) = w1 at c1 c2 c3 c4 HW1 HBL1 ⊢
  clear hcd hdp hfp hs1 hs2
  go_cut [] from 24 to 28 (fun wx => Hid (EW wx L n a (dnP p0 dn) b (p + if s1 = s2 then 1 else 0) (q + if s1 = s2 then 0 else 1)) ∧ Hid (Below L.bp w wx))
  case first =>
    have c5 := HW1.out.cp
    have c6 := HW1.out.cq
    have f5 := HW1.out.fp
    have f6 := HW1.out.fq
    have HP' := Lib.hid (HW1.out.pset (p + 1))
    have HQ' := Lib.hid (HW1.out.qset (q + 1))
    have B5 := Lib.hid (HBL1.out.setCell (p := ⟨L.bp, 0, none⟩) (Nat.le_refl _) (.int .i64 ((p + 1 : Nat) : Int)))
    have B6 := Lib.hid (HBL1.out.setCell (p := ⟨L.bq, 0, none⟩) (by have := HO.out; show L.bp ≤ L.bq; omega) (.int .i64 ((q + 1 : Nat) : Int)))
    cases s1 <;> cases s2
    all_goals
      go_wp2_with fail
      go_meet
    · case rel => exact ⟨Lib.hid (HP'.out.heap rfl), Lib.hid (B5.out.trans ⟨rfl, rfl, rfl, Nat.le_refl _, fun _ _ => rfl⟩)⟩
    · case rel => exact ⟨Lib.hid (HQ'.out.heap rfl), Lib.hid (B6.out.trans ⟨rfl, rfl, rfl, Nat.le_refl _, fun _ _ => rfl⟩)⟩
    · case rel => exact ⟨Lib.hid (HQ'.out.heap rfl), Lib.hid (B6.out.trans ⟨rfl, rfl, rfl, Nat.le_refl _, fun _ _ => rfl⟩)⟩
    · case rel => exact ⟨Lib.hid (HP'.out.heap rfl), Lib.hid (B5.out.trans ⟨rfl, rfl, rfl, Nat.le_refl _, fun _ _ => rfl⟩)⟩
  case rest =>
    obtain ⟨HX, HB⟩ := hcut
    obtain ⟨P', hP'⟩ : ∃ x, (p + if s1 = s2 then 1 else 0) = x := ⟨_, rfl⟩
    obtain ⟨Q', hQ'⟩ : ∃ x, (q + if s1 = s2 then 0 else 1) = x := ⟨_, rfl⟩
    rw [hP', hQ'] at HX
    have HP' := Lib.hid hP'
    have HQ' := Lib.hid hQ'
    obtain ⟨dp, hdp⟩ : ∃ x, dnP p0 dn = x := ⟨_, rfl⟩
    have HDP : Hid (dp p0 = true) := by rw [← hdp]; exact if_pos rfl
    rw [hdp] at HX HQ
    have HDE := Lib.hid hdp
    clear c1 c2 c3 c4 HW1 HBL1 HE hP' hQ' hdp
    have hca := HX.out.ca
    rw [HT.out.1] at hca
    have HX0 : Hid (EW wc L n (el1 dp r 0 0 a) dp b P' Q') := Lib.hid (HX.out.congr (fun x y _ _ => by unfold el1; rw [if_neg (by omega)]) fun _ _ => rfl)
    clear HX
    go_wp2_with fail
    go_loopw [31] (fun i' wr => ∃ i : Nat, i' = .int .i64 i ∧ i ≤ n ∧ Hid (EW wr L n (el1 dp r i 0 a) dp b P' Q') ∧ Hid (Below L.bp w wr)) (fun i _ => n - (intOf i).toNat)
    case atStart => exact ⟨0, rfl, Nat.zero_le _, HX0, HB⟩
    case round =>
      clear HX0 HB hca
      obtain ⟨i, rfl, hin, HX, HB⟩ := hrel
      have hca := HX.out.ca
      rw [HT.out.1] at hca
      by_cases hlt : i < n
      · go_wp2_with fail
        go_loopw [36] (fun j' wr => ∃ j : Nat, j' = .int .i64 j ∧ j ≤ n ∧ Hid (EW wr L n (el1 dp r i j a) dp b P' Q') ∧ Hid (Below L.bp w wr)) (fun j _ => n - (intOf j).toNat)
        case atStart => exact ⟨0, rfl, Nat.zero_le _, HX, HB⟩
        case round =>
          clear HX HB hca
          obtain ⟨j, rfl, hjn, HX, HB⟩ := hrel
          have hca := HX.out.ca
          have hcd := HX.out.cd
          rw [HT.out.1] at hca
          rw [HT.out.2] at hcd
          by_cases hjl : j < n
          · have d1 := HX.out.dc i hlt
            have d2 := HX.out.dc j hjl
            by_cases hgo : dp i = false ∧ dp j = false
            · have HGO := Lib.hid hgo
              rw [hgo.1] at d1
              rw [hgo.2] at d2
              have h1 := HX.out.hd i hlt
              have h2 := HX.out.hd p0 hp0
              have h3 := HX.out.en i j hlt hjl
              have h4 := HX.out.en i p0 hlt hp0
              have h5 := HX.out.en p0 j hp0 hjl
              have h6 := HX.out.cb
              have h7 := HX.out.fr i j hlt hjl
              have e1 : el1 dp r i j a i j = a i j := if_neg (by omega)
              have e2 : el1 dp r i j a i p0 = a i p0 := if_neg (by rw [HDP.out]; simp)
              have e3 : el1 dp r i j a p0 j = a p0 j := if_neg (by rw [HDP.out]; simp)
              rw [e1] at h3
              rw [e2] at h4
              rw [e3] at h5
              have hqd := HQ.out i j hlt hjl hgo.1 hgo.2
              obtain ⟨v, hv⟩ : ∃ v, r i j = v := ⟨_, rfl⟩
              have HQU : Hid (∀ w, Calls Try.prog 34 #[.int .i64 pv, .int .i64 (a i j), .int .i64 (a i p0), .int .i64 (a p0 j), .int .i64 b] w fun x w' => x = .returned (.int .i64 v) ∧ ∃ n, w' = w.drewN n) := Lib.hid fun w => by
                have q1 := hqd.eq
                rw [HPE.out, hv] at q1
                exact quotient_any _ _ _ _ _ v (by rw [← HPE.out]; exact HPV.out) hqd.h1 hqd.h2 hqd.h3 HB0.out HBZ.out q1 (by rw [← hv]; exact hqd.hr) w
              have HN : Hid (EW (wr.setCell ⟨L.bs i, j, none⟩ (.int .i64 v)) L n (el1 dp r i (j + 1) a) dp b P' Q') := Lib.hid ((HX.out.store hlt hjl v).congr (fun x y _ _ => by
                unfold el1
                by_cases e : x = i ∧ y = j
                · rw [if_pos e, if_pos ⟨by rw [e.1]; exact hgo.1, by rw [e.2]; exact hgo.2, by omega⟩, e.1, e.2, hv]
                · rw [if_neg e]
                  by_cases e3 : dp x = false ∧ dp y = false ∧ (x < i ∨ x = i ∧ y < j)
                  · rw [if_pos e3, if_pos ⟨e3.1, e3.2.1, by omega⟩]
                  · rw [if_neg e3, if_neg (fun h => e3 ⟨h.1, h.2.1, by omega⟩)]) fun _ _ => rfl)
              have hsle : L.bp ≤ L.bs i := by have := HX.out.od; have := HX.out.os i hlt; omega
              have HNB : Hid (Below L.bp w (wr.setCell ⟨L.bs i, j, none⟩ (.int .i64 v))) := Lib.hid (HB.out.setCell (p := ⟨L.bs i, j, none⟩) hsle _)
              generalize a i j = x1 at h3 HQU
              generalize a i p0 = x2 at h4 HQU
              generalize a p0 j = x3 at h5 HQU
              clear e1 e2 e3 hqd hv hsle hgo HX HB
              go_wp2_with fail
              refine Go.region_quiet_tail 29 (by kernel_rfl) (by kernel_rfl) ?_
              simp only [List.take_succ_cons, List.take_zero, List.drop_succ_cons, List.drop_zero]
              repeat (go_big_quiet_step (exact Calls.quiet_of (HQU.out _)))
              refine wpQuiet_nil ?_
              rintro _ ⟨nq, rfl⟩
              all_goals
                go_wp2_with fail
                go_roundw
                case rel => exact ⟨j + 1, by go_num, by omega, Lib.hid (HN.out.heap rfl), Lib.hid (HNB.out.trans ⟨rfl, rfl, rfl, Nat.le_refl _, fun _ _ => rfl⟩)⟩
                case measure => simp [intOf]; omega
            · have HN : Hid (EW wr L n (el1 dp r i (j + 1) a) dp b P' Q') := Lib.hid (HX.out.congr (fun x y _ _ => by
                unfold el1
                by_cases e3 : dp x = false ∧ dp y = false ∧ (x < i ∨ x = i ∧ y < j)
                · rw [if_pos e3, if_pos ⟨e3.1, e3.2.1, by omega⟩]
                · rw [if_neg e3, if_neg (fun h => by
                    by_cases e : x = i ∧ y = j
                    · rw [e.1, e.2] at h
                      exact hgo ⟨h.1, h.2.1⟩
                    · exact e3 ⟨h.1, h.2.1, by omega⟩)]) fun _ _ => rfl)
              cases hd1 : dp i
              · cases hd2 : dp j
                · exact absurd ⟨hd1, hd2⟩ hgo
                · rw [hd1] at d1
                  rw [hd2] at d2
                  clear hgo hd1 hd2 HX
                  go_wp2_with fail
                  go_roundw
                  case rel => exact ⟨j + 1, by go_num, by omega, HN, HB⟩
                  case measure => simp [intOf]; omega
              · rw [hd1] at d1
                clear hgo hd1 HX
                go_wp2_with fail
                go_roundw
                case rel => exact ⟨j + 1, by go_num, by omega, HN, HB⟩
                case measure => simp [intOf]; omega
          · obtain rfl : j = n := by omega
            have HN : Hid (EW wr L j (el1 dp r (i + 1) 0 a) dp b P' Q') := Lib.hid (HX.out.congr (fun x y _ hy => by
              unfold el1
              by_cases e3 : dp x = false ∧ dp y = false ∧ (x < i ∨ x = i ∧ y < j)
              · rw [if_pos e3, if_pos ⟨e3.1, e3.2.1, by omega⟩]
              · rw [if_neg e3, if_neg (fun h => e3 ⟨h.1, h.2.1, by omega⟩)]) fun _ _ => rfl)
            go_wp2_with fail
            go_roundw
            case rel => exact ⟨i + 1, by go_num, by omega, HN, HB⟩
            case measure => simp [intOf]; omega
      · obtain rfl : i = n := by omega
        have c4 := HX.out.cb
        have f4 := HX.out.fb
        have HN := Lib.hid (((HX.out.congr (a' := elA dp r a) (dn' := dp) (fun x y hx hy => by
          unfold el1 elA
          by_cases e : dp x = false ∧ dp y = false
          · rw [if_pos e, if_pos ⟨e.1, e.2, Or.inl hx⟩]
          · rw [if_neg e, if_neg (fun h => e ⟨h.1, h.2.1⟩)]) fun _ _ => rfl)).bset pv)
        have HNB := Lib.hid (HB.out.setCell (p := ⟨L.bb, 0, none⟩) (by have := HO.out; show L.bp ≤ L.bb; omega) (.int .i64 pv))
        clear HX HB
        go_wp2_with fail
        all_goals
          refine bodyPost_end (results_none rfl _ _ _) rfl ?_
          rw [HDE.out, HPE.out]
          have p1 := HP'.out
          have q1 := HQ'.out
          first
            | (have e := HSG.out.1 (by assumption)
               rw [if_pos e] at p1 q1
               subst p1 q1
               exact ⟨rfl, HN.out, HNB.out⟩)
            | (have e : ¬ s1 = s2 := fun e => absurd (HSG.out.2 e) (by assumption)
               rw [if_neg e] at p1 q1
               subst p1 q1
               exact ⟨rfl, HN.out, HNB.out⟩)
end Go.Proofs.Yteanhbldhaiekaa
