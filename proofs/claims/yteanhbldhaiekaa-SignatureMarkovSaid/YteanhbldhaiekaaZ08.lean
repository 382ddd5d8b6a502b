/-
  Minors are bounded by the product of the sums of the rows. No program here.
  The contracts of mulMod, subMod, gcd, abs, inverse, and of the reference's Gcd, Abs.
  The inverse modulo the great prime, by a primitive root. No program here.
-/
import Derived.Test.YteanhbldhaiekaaZ07
import Derived.Test.YteanhbldhaiekaaZ03
namespace Go.Proofs.Yteanhbldhaiekaa

def sN : Nat → (Nat → Nat) → Nat
  | 0, _ => 0
  | n + 1, f => sN n f + f n
theorem sN_congr : ∀ {n : Nat} {f g : Nat → Nat}, (∀ k, k < n → f k = g k) → sN n f = sN n g
  | 0, _, _, _ => rfl
  | n + 1, f, g, h => by show sN n f + f n = sN n g + g n; rw [sN_congr fun k hk => h k (by omega), h n (by omega)]
theorem sN_le : ∀ {n : Nat} {f g : Nat → Nat}, (∀ k, k < n → f k ≤ g k) → sN n f ≤ sN n g
  | 0, _, _, _ => Nat.le_refl _
  | n + 1, f, g, h => by
    have h1 := sN_le (n := n) (f := f) (g := g) fun k hk => h k (by omega)
    have h2 := h n (by omega)
    show sN n f + f n ≤ sN n g + g n
    omega
theorem sN_mul : ∀ (n t : Nat) (f : Nat → Nat), sN n (fun k => f k * t) = sN n f * t
  | 0, t, _ => (Nat.zero_mul t).symm
  | n + 1, t, f => by show sN n _ + f n * t = (sN n f + f n) * t; rw [sN_mul n t f, Nat.add_mul]
theorem natAbs_sI : ∀ (n : Nat) (f : Nat → Int), (sI n f).natAbs ≤ sN n fun k => (f k).natAbs
  | 0, _ => Nat.le_refl _
  | n + 1, f => by
    have := natAbs_sI n f
    have h2 := Int.natAbs_add_le (sI n f) (f n)
    show (sI n f + f n).natAbs ≤ sN n _ + (f n).natAbs
    omega
theorem sN_sk {j : Nat} : ∀ {n : Nat} (f : Nat → Nat), j < n + 1 → sN (n + 1) f = sN n (fun k => f (sk j k)) + f j
  | 0, f, h => by rw [show j = 0 by omega]; rfl
  | n + 1, f, h => by
    show sN (n + 1) f + f (n + 1) = (sN n (fun k => f (sk j k)) + f (sk j n)) + f j
    by_cases e : j = n + 1
    · subst e
      rw [show sk (n + 1) n = n by unfold sk; rw [if_pos (by omega)], sN_congr (n := n) (g := f) fun k hk => by show f (sk (n + 1) k) = f k; unfold sk; rw [if_pos (by omega)]]
      rfl
    · rw [sN_sk (j := j) (n := n) f (by omega), show sk j n = n + 1 by unfold sk; rw [if_neg (by omega)]]
      omega
theorem pN_sk {j : Nat} : ∀ {n : Nat} (f : Nat → Nat), j < n + 1 → pN (n + 1) f = pN n (fun k => f (sk j k)) * f j
  | 0, f, h => by rw [show j = 0 by omega]; rfl
  | n + 1, f, h => by
    show pN (n + 1) f * f (n + 1) = (pN n (fun k => f (sk j k)) * f (sk j n)) * f j
    by_cases e : j = n + 1
    · subst e
      rw [show sk (n + 1) n = n by unfold sk; rw [if_pos (by omega)], pN_congr (n := n) (g := f) fun k hk => by show f (sk (n + 1) k) = f k; unfold sk; rw [if_pos (by omega)]]
      rfl
    · rw [pN_sk (j := j) (n := n) f (by omega), show sk j n = n + 1 by unfold sk; rw [if_neg (by omega)], Nat.mul_assoc, Nat.mul_assoc, Nat.mul_comm (f j)]
theorem pN_le : ∀ {n : Nat} {f g : Nat → Nat}, (∀ k, k < n → f k ≤ g k) → pN n f ≤ pN n g
  | 0, _, _, _ => Nat.le_refl _
  | n + 1, f, g, h => Nat.mul_le_mul (pN_le fun k hk => h k (by omega)) (h n (by omega))
theorem pN_pos : ∀ {n : Nat} {f : Nat → Nat}, (∀ k, k < n → 1 ≤ f k) → 1 ≤ pN n f
  | 0, _, _ => Nat.le_refl _
  | n + 1, f, h => Nat.mul_le_mul (m₁ := 1) (n₁ := 1) (pN_pos fun k hk => h k (by omega)) (h n (by omega))
/-- the numbers without J, numbered anew -/
def uk (J k : Nat) : Nat := if k < J then k else k - 1
theorem sk_uk {J k : Nat} (h : k ≠ J) : sk J (uk J k) = k := by
  unfold sk uk
  by_cases h1 : k < J
  · rw [if_pos h1, if_pos h1]
  · rw [if_neg h1, if_neg (by omega)]; omega
theorem uk_lt {J k n : Nat} (h : k ≠ J) (hk : k < n + 1) (hJ : J < n + 1) : uk J k < n := by unfold uk; split <;> omega
/-- through an injection -/
theorem sN_inj : ∀ {k c : Nat} {js : Nat → Nat} (f : Nat → Nat), (∀ a b, a < k → b < k → js a = js b → a = b) → (∀ b, b < k → js b < c) → sN k (fun b => f (js b)) ≤ sN c f
  | 0, _, _, _, _, _ => Nat.zero_le _
  | k + 1, c, js, f, hi, hl => by
    have hJ := hl k (by omega)
    obtain ⟨c', rfl⟩ : ∃ x, c = x + 1 := ⟨c - 1, by omega⟩
    have hne : ∀ b, b < k → js b ≠ js k := fun b hb e => by have := hi b k (by omega) (by omega) e; omega
    rw [sN_sk f hJ]
    have ih := sN_inj (k := k) (c := c') (js := fun b => uk (js k) (js b)) (fun x => f (sk (js k) x)) (fun a b ha hb e => hi a b (by omega) (by omega) (by
      have e : uk (js k) (js a) = uk (js k) (js b) := e
      rw [← sk_uk (hne a ha), ← sk_uk (hne b hb), e])) (fun b hb => uk_lt (hne b hb) (hl b (by omega)) hJ)
    rw [sN_congr (g := fun b => f (js b)) fun b hb => by rw [sk_uk (hne b hb)]] at ih
    show sN k _ + f (js k) ≤ _
    omega
theorem pN_inj : ∀ {k n : Nat} {js : Nat → Nat} (f : Nat → Nat), (∀ i, i < n → 1 ≤ f i) → (∀ a b, a < k → b < k → js a = js b → a = b) → (∀ b, b < k → js b < n) → pN k (fun b => f (js b)) ≤ pN n f
  | 0, _, _, _, h1, _, _ => pN_pos h1
  | k + 1, n, js, f, h1, hi, hl => by
    have hJ := hl k (by omega)
    obtain ⟨c', rfl⟩ : ∃ x, n = x + 1 := ⟨n - 1, by omega⟩
    have hne : ∀ b, b < k → js b ≠ js k := fun b hb e => by have := hi b k (by omega) (by omega) e; omega
    rw [pN_sk f hJ]
    have ih := pN_inj (k := k) (n := c') (js := fun b => uk (js k) (js b)) (fun x => f (sk (js k) x)) (fun i hi => h1 _ (sk_lt hi)) (fun a b ha hb e => hi a b (by omega) (by omega) (by
      have e : uk (js k) (js a) = uk (js k) (js b) := e
      rw [← sk_uk (hne a ha), ← sk_uk (hne b hb), e])) (fun b hb => uk_lt (hne b hb) (hl b (by omega)) hJ)
    rw [pN_congr (g := fun b => f (js b)) fun b hb => by rw [sk_uk (hne b hb)]] at ih
    exact Nat.mul_le_mul ih (Nat.le_refl _)
theorem natAbs_sg1 (j : Nat) : (sg1 j).natAbs = 1 := by unfold sg1; split <;> rfl
theorem det_bound : ∀ (k : Nat) (A : Mx), (det k A).natAbs ≤ pN k fun a => sN k fun b => (A a b).natAbs
  | 0, _ => Nat.le_refl _
  | k + 1, A => by
    rw [det_succ, pN_succ']
    refine Nat.le_trans (natAbs_sI _ _) ?_
    rw [← sN_mul]
    refine sN_le fun j hj => ?_
    rw [Int.natAbs_mul, Int.natAbs_mul, natAbs_sg1, Nat.one_mul]
    refine Nat.mul_le_mul_left _ (Nat.le_trans (det_bound k _) (pN_le fun a _ => ?_))
    have := sN_sk (j := j) (fun b => (A (a + 1) b).natAbs) hj
    omega
/-- the bound of a matrix -/
def bndM (n c : Nat) (m : Mx) : Nat := pN n fun i => max (sN c fun j => (m i j).natAbs) 1
theorem minor_bound {n c k : Nat} (m : Mx) {is js : Nat → Nat} (hi : ∀ a b, a < k → b < k → is a = is b → a = b) (hil : ∀ a, a < k → is a < n) (hj : ∀ a b, a < k → b < k → js a = js b → a = b) (hjl : ∀ a, a < k → js a < c) :
    (det k fun a b => m (is a) (js b)).natAbs ≤ bndM n c m := by
  refine Nat.le_trans (det_bound k _) ?_
  refine Nat.le_trans (pN_le (g := fun a => max (sN c fun j => (m (is a) j).natAbs) 1) fun a _ => ?_) (pN_inj (fun i => max (sN c fun j => (m i j).natAbs) 1) (fun _ _ => Nat.le_max_right ..) hi hil)
  exact Nat.le_trans (sN_inj (fun j => (m (is a) j).natAbs) hj hjl) (Nat.le_max_left ..)
/-- a minor divided by a greater number is nothing -/
theorem minor_zero {n c k p : Nat} {m : Mx} (hb : bndM n c m < p) (h : Dv n c k m (p : Int)) : Dv n c k m 0 := by
  intro is js his hjs
  have hd := h is js his hjs
  suffices hz : (det k fun a b => m (is a) (js b)) = 0 by rw [hz]; exact Int.dvd_refl 0
  by_cases hi : ∀ a b, a < k → b < k → is a = is b → a = b
  · by_cases hj : ∀ a b, a < k → b < k → js a = js b → a = b
    · have hm := minor_bound m hi his hj hjs
      obtain ⟨t, ht⟩ := hd
      rw [ht] at hm ⊢
      rw [Int.natAbs_mul, Int.natAbs_natCast] at hm
      have : t.natAbs = 0 := by
        rcases Nat.eq_zero_or_pos t.natAbs with h | h
        · exact h
        · have := Nat.mul_le_mul_left p h; omega
      rw [Int.natAbs_eq_zero.1 this, Int.mul_zero]
    · have : ∃ a b, a < k ∧ b < k ∧ a ≠ b ∧ js a = js b := by
        apply Classical.byContradiction
        intro hno
        exact hj fun a b ha hb e => by
          apply Classical.byContradiction
          exact fun hne => hno ⟨a, b, ha, hb, hne, e⟩
      obtain ⟨a, b, ha, hb', hne, e⟩ := this
      exact det_cols ha hb' hne fun i _ => by rw [e]
  · have : ∃ a b, a < k ∧ b < k ∧ a ≠ b ∧ is a = is b := by
      apply Classical.byContradiction
      intro hno
      exact hi fun a b ha hb e => by
        apply Classical.byContradiction
        exact fun hne => hno ⟨a, b, ha, hb, hne, e⟩
    obtain ⟨a, b, ha, hb', hne, e⟩ := this
    exact det_rows ha hb' hne fun j _ => by rw [e]
/-- determinants of matrices that are alike modulo p -/
theorem det_mod {p : Int} : ∀ {k : Nat} {A B : Mx}, (∀ i j, i < k → j < k → p ∣ A i j - B i j) → p ∣ det k A - det k B
  | 0, _, _, _ => ⟨0, by show (1 : Int) - 1 = p * 0; rw [Int.mul_zero]; rfl⟩
  | k + 1, A, B, h => by
    rw [det_succ, det_succ]
    have e : ∀ f g : Nat → Int, sI (k + 1) f - sI (k + 1) g = sI (k + 1) fun j => f j - g j := fun f g => by
      have := sI_add (k + 1) (fun j => f j - g j) g
      rw [sI_congr (g := f) fun j _ => by show f j - g j + g j = f j; omega] at this
      omega
    rw [e]
    refine dvd_sI fun j hj => ?_
    have h1 := h 0 j (by omega) hj
    have h2 := det_mod (p := p) (k := k) (A := fun i l => A (i + 1) (sk j l)) (B := fun i l => B (i + 1) (sk j l)) fun i l hi hl => h (i + 1) (sk j l) (by omega) (sk_lt hl)
    generalize det k (fun i l => A (i + 1) (sk j l)) = x at h2
    generalize det k (fun i l => B (i + 1) (sk j l)) = y at h2
    have e2 : sg1 j * A 0 j * x - sg1 j * B 0 j * y = (A 0 j - B 0 j) * (sg1 j * x) + (x - y) * (sg1 j * B 0 j) := by
      rw [Int.sub_mul, Int.sub_mul, ← Int.mul_assoc, ← Int.mul_assoc, ← Int.mul_assoc, ← Int.mul_assoc, Int.mul_comm (A 0 j), Int.mul_comm (B 0 j)]
      rw [Int.mul_comm x (sg1 j), Int.mul_comm y (sg1 j), Int.mul_right_comm (sg1 j) x, Int.mul_right_comm (sg1 j) y]
      omega
    rw [e2]
    exact Int.dvd_add (Int.dvd_trans h1 (Int.dvd_mul_right ..)) (Int.dvd_trans h2 (Int.dvd_mul_right ..))
end Go.Proofs.Yteanhbldhaiekaa
namespace Go.Proofs.Yteanhbldhaiekaa
open Go.RowKit

theorem hi_lo (a b : Nat) : a * b / 18446744073709551616 * 18446744073709551616 + a * b % 18446744073709551616 = a * b := by
  rw [Nat.mul_comm]; exact Nat.div_add_mod _ _
set_option maxHeartbeats 1000000 in
theorem mulmod_any (a b m : Nat) (ha : a < 18446744073709551616) (hb : b < 18446744073709551616) (hm : m < 18446744073709551616) (h0 : m ≠ 0) (w : World) :
    Calls Try.prog 67 #[.int .u64 a, .int .u64 b, .int .u64 m] w fun e w' => e = .returned (.int .u64 (a * b % m : Nat)) ∧ ∃ n, w' = w.drewN n := by
  have HA := Lib.hid ha
  have HB := Lib.hid hb
  have HM := Lib.hid hm
  have H0 := Lib.hid h0
  obtain ⟨h, hh⟩ : ∃ x, a * b / 18446744073709551616 = x := ⟨_, rfl⟩
  obtain ⟨l, hl⟩ : ∃ x, a * b % 18446744073709551616 = x := ⟨_, rfl⟩
  have HE := Lib.hid (hi_lo a b)
  rw [hh, hl] at HE
  have HL : Hid (l < 18446744073709551616) := by rw [← hl]; exact Nat.mod_lt _ (by decide)
  have HHH := Lib.hid hh
  have HLL := Lib.hid hl
  clear ha hb hm h0 hh hl
  go_enter Try.func67, Try.ntmps67
  go_wp2_with fail
  refine (mul64_any a b HA.out HB.out w).mono ?_
  rintro e w1 ⟨rfl, rfl⟩
  rw [HHH.out, HLL.out]
  go_wp2_with fail
  refine (rem64_any h l m HM.out H0.out HL.out w).mono ?_
  rintro e w1 ⟨rfl, n, hw⟩
  rw [HE.out]
  have HW := Lib.hid hw
  clear hw
  go_wp2_with fail
  go_ret
  exact ⟨rfl, n, HW.out⟩
/-- a difference below m -/
def subN (a b m : Nat) : Nat := if a < b then a + m - b else a - b
theorem subN_lt {a b m : Nat} (ha : a < m) (hb : b < m) : subN a b m < m := by have := ha; have := hb; unfold subN; split <;> omega
theorem subN_eq {a b m : Nat} (_ha : a < m) (_hb : b < m) : (m : Int) ∣ ((a : Int) - (b : Int)) - (subN a b m : Int) := by
  unfold subN
  split
  · exact ⟨-1, by omega⟩
  · exact ⟨0, by omega⟩
set_option maxHeartbeats 1000000 in
theorem submod_any (a b m : Nat) (ha : a < m) (hb : b < m) (hm : m ≤ 9223372036854775807) (w : World) :
    Calls Try.prog 68 #[.int .u64 a, .int .u64 b, .int .u64 m] w fun e w' => e = .returned (.int .u64 (subN a b m : Nat)) ∧ w = w' := by
  by_cases h : a < b
  · have e : subN a b m = a + m - b := if_pos h
    rw [e]
    obtain ⟨s, hs⟩ : ∃ s, a + m = s := ⟨_, rfl⟩
    obtain ⟨t, ht⟩ : ∃ t, a + m - b = t := ⟨_, rfl⟩
    have x1 : IntKind.u64.wrap ((a : Int) + (m : Int)) = (s : Int) := by rw [addN, hs]; exact wrapN _ (by omega)
    have x2 : IntKind.u64.wrap ((s : Int) - (b : Int)) = (t : Int) := by rw [show (s : Int) - (b : Int) = (t : Int) by omega]; exact wrapN _ (by omega)
    have z : decide (a < b) = true := decide_eq_true h
    rw [ht]
    clear ha hb hm e hs ht h
    go_enter Try.func68, Try.ntmps68
    go_wp2_with fail
    go_ret
    exact ⟨rfl, rfl⟩
  · have e : subN a b m = a - b := if_neg h
    rw [e]
    obtain ⟨t, ht⟩ : ∃ t, a - b = t := ⟨_, rfl⟩
    have x2 : IntKind.u64.wrap ((a : Int) - (b : Int)) = (t : Int) := by rw [show (a : Int) - (b : Int) = (t : Int) by omega]; exact wrapN _ (by omega)
    have z : decide (a < b) = false := decide_eq_false h
    rw [ht]
    clear ha hb hm e ht h
    go_enter Try.func68, Try.ntmps68
    go_wp2_with fail
    go_ret
    exact ⟨rfl, rfl⟩
theorem wabs_eq (x : Int) (h1 : -9223372036854775808 ≤ x) (h2 : x ≤ 9223372036854775807) : (x < 0 → IntKind.u64.wrap (wrap64 (-x)) = ((x.natAbs : Nat) : Int)) ∧ (0 ≤ x → IntKind.u64.wrap x = ((x.natAbs : Nat) : Int)) := by
  unfold wrap64
  rw [IntKind.wrap_u64, IntKind.wrap_u64]
  exact ⟨fun h => by omega, fun h => by omega⟩
set_option maxHeartbeats 1000000 in
theorem abs_any (x : Int) (h1 : -9223372036854775808 ≤ x) (h2 : x ≤ 9223372036854775807) (w : World) :
    Calls Try.prog 64 #[.int .i64 x] w fun e w' => e = .returned (.int .u64 (x.natAbs : Nat)) ∧ w = w' := by
  obtain ⟨e1, e2⟩ := wabs_eq x h1 h2
  by_cases h : x < 0
  · have z : decide (x < 0) = true := decide_eq_true h
    have E := Lib.hid (e1 h)
    clear h1 h2 h e1 e2
    go_enter Try.func64, Try.ntmps64
    go_wp2_with fail
    go_ret
    exact ⟨ret_int E.out, rfl⟩
  · have z : decide (x < 0) = false := decide_eq_false h
    have E := Lib.hid (e2 (by omega))
    clear h1 h2 h e1 e2
    go_enter Try.func64, Try.ntmps64
    go_wp2_with fail
    go_ret
    exact ⟨ret_int E.out, rfl⟩
/-- the great prime -/
def PM : Nat := 2305843009213693951
def EX : Nat := 2305843009213693949
def invN (a : Nat) : Nat := 1 * a ^ EX % PM
theorem inv_step {r a e T : Nat} (h : r * a ^ e % PM = T) : (e % 2 = 1 → (r * a % PM) * (a * a % PM) ^ (e / 2) % PM = T) ∧ (e % 2 = 0 → r * (a * a % PM) ^ (e / 2) % PM = T) := by
  have key : ∀ x, x * (a * a % PM) ^ (e / 2) % PM = x * a ^ (2 * (e / 2)) % PM := by
    intro x
    rw [Nat.mul_mod, ← Nat.pow_mod, ← Nat.mul_mod, Nat.mul_pow, ← Nat.pow_add, Nat.two_mul]
  refine ⟨fun h1 => ?_, fun h0 => ?_⟩
  · rw [key, Nat.mod_mul_mod, Nat.mul_assoc, ← Nat.pow_succ', ← h]
    congr 3; omega
  · rw [key, ← h]
    congr 3; omega
set_option maxHeartbeats 2000000 in
theorem inverse_any (A : Nat) (hA : A < PM) (w : World) :
    Calls Try.prog 69 #[.int .u64 A] w fun e w' => e = .returned (.int .u64 (invN A : Nat)) ∧ ∃ n, w' = w.drewN n := by
  obtain ⟨T, hT⟩ : ∃ t, invN A = t := ⟨_, rfl⟩
  rw [hT]
  have hT' : 1 * A ^ EX % PM = T := hT
  have K0 : Hid (1 * A ^ EX % PM = T ∧ 1 < PM ∧ A < PM) := Lib.hid ⟨hT', by decide, hA⟩
  have HEX : Hid (EX = 2305843009213693949) := Lib.hid rfl
  clear hT hT' hA
  go_enter Try.func69, Try.ntmps69
  go_wp2_with fail
  go_loopw [0, 3, 4] (fun a' r' e' wr => ∃ (a r e : Nat), a' = .int .u64 a ∧ r' = .int .u64 r ∧ e' = .int .u64 e ∧ Hid (r * a ^ e % PM = T ∧ r < PM ∧ a < PM) ∧ Hid (e ≤ EX) ∧ Hid (∃ n, wr = w.drewN n)) (fun _ _ e' _ => (intOf e').toNat)
  case atStart => exact ⟨A, 1, EX, rfl, rfl, rfl, K0, Nat.le_refl _, ⟨0, rfl⟩⟩
  case round =>
    clear K0
    obtain ⟨a, r, e, rfl, rfl, rfl, HI, HE, HW⟩ := hrel
    have hel := HE.out
    have hex := HEX.out
    by_cases h0 : e = 0
    · subst h0
      have HX : Hid (r = T) := by
        obtain ⟨h1, h2, -⟩ := HI.out
        rw [Nat.pow_zero, Nat.mul_one, Nat.mod_eq_of_lt h2] at h1
        exact Lib.hid h1
      clear HI hel hex
      go_wp2_with fail
      go_ret
      rw [← HX.out]
      exact ⟨rfl, HW.out⟩
    · obtain ⟨i1, i2, i3⟩ := HI.out
      have hpm : PM = 2305843009213693951 := rfl
      have z : decide (0 < e) = true := decide_eq_true (by omega)
      have z' : 0 < e := by omega
      have zb : bits .and .u64 (e : Int) 1 = ((e % 2 : Nat) : Int) := by
        have h := bits_and_u64_nat e 1 (by omega) (by omega)
        rw [Nat.and_one_is_mod] at h
        exact h
      obtain ⟨e2, he2⟩ : ∃ x, e / 2 = x := ⟨_, rfl⟩
      have ze : (e : Int) / 2 = (e2 : Int) := by omega
      have HE2 : Hid (e2 ≤ EX) := Lib.hid (by omega)
      have hlt : e2 < e := by omega
      have HLT := Lib.hid hlt
      have hst := inv_step i1
      rw [he2] at hst
      have HA := Lib.hid (show a < 18446744073709551616 by omega)
      have HR := Lib.hid (show r < 18446744073709551616 by omega)
      obtain ⟨aa, haa⟩ : ∃ x, a * a % PM = x := ⟨_, rfl⟩
      rw [haa] at hst
      have HAA := Lib.hid haa
      have haal : aa < PM := by rw [← haa]; exact Nat.mod_lt _ (by decide)
      have hcase : e % 2 = 0 ∨ e % 2 = 1 := by omega
      clear hpm hex
      rcases hcase with hbt | hbt
      · have HI' : Hid (r * aa ^ e2 % PM = T ∧ r < PM ∧ aa < PM) := Lib.hid ⟨hst.2 hbt, i2, haal⟩
        have zb0 : bits .and .u64 (e : Int) 1 = 0 := by rw [zb, hbt]; rfl
        clear hst i1 i2 i3 haa haal hbt he2 hlt hel h0 HI zb
        go_wp2_with fail
        refine (mulmod_any a a PM HA.out HA.out (by decide) (by decide) wr).mono ?_
        rintro e9 w1 ⟨rfl, n1, hw⟩
        rw [HAA.out]
        have HW' : Hid (∃ n, w1 = w.drewN n) := by
          obtain ⟨n, e⟩ := HW.out
          exact Lib.hid ⟨n + n1, by rw [hw, e, drewN2]⟩
        clear hw HW
        go_wp2_with fail
        go_roundw
        case rel => exact ⟨aa, r, e2, rfl, rfl, rfl, HI', HE2, HW'⟩
        case measure => have := HLT.out; simp [intOf]; omega
      · obtain ⟨ra, hra⟩ : ∃ x, r * a % PM = x := ⟨_, rfl⟩
        have HRA := Lib.hid hra
        rw [hra] at hst
        have hral : ra < PM := by rw [← hra]; exact Nat.mod_lt _ (by decide)
        have HI' : Hid (ra * aa ^ e2 % PM = T ∧ ra < PM ∧ aa < PM) := Lib.hid ⟨hst.1 hbt, hral, haal⟩
        have zb0 : bits .and .u64 (e : Int) 1 = 1 := by rw [zb, hbt]; rfl
        clear hst i1 i2 i3 haa haal hbt he2 hlt hel h0 HI zb hra hral
        go_wp2_with fail
        refine (mulmod_any r a PM HR.out HA.out (by decide) (by decide) wr).mono ?_
        rintro e9 w1 ⟨rfl, n1, hw1⟩
        rw [HRA.out]
        have HW1 : Hid (∃ n, w1 = w.drewN n) := by
          obtain ⟨n, e⟩ := HW.out
          exact Lib.hid ⟨n + n1, by rw [hw1, e, drewN2]⟩
        clear hw1 HW
        go_wp2_with fail
        refine (mulmod_any a a PM HA.out HA.out (by decide) (by decide) w1).mono ?_
        rintro e9 w2 ⟨rfl, n2, hw2⟩
        rw [HAA.out]
        have HW2 : Hid (∃ n, w2 = w.drewN n) := by
          obtain ⟨n, e⟩ := HW1.out
          exact Lib.hid ⟨n + n2, by rw [hw2, e, drewN2]⟩
        clear hw2 HW1
        go_wp2_with fail
        go_roundw
        case rel => exact ⟨aa, ra, e2, rfl, rfl, rfl, HI', HE2, HW2⟩
        case measure => have := HLT.out; simp [intOf]; omega
end Go.Proofs.Yteanhbldhaiekaa
namespace Go.Proofs.Yteanhbldhaiekaa

section
variable {p g : Nat}
theorem pow_gcd (hp : 1 < p) : ∀ a b : Nat, g ^ a % p = 1 → g ^ b % p = 1 → g ^ Nat.gcd a b % p = 1 := by
  intro a b
  induction a, b using Nat.gcd.induction with
  | H0 n => intro _ h; rwa [Nat.gcd_zero_left]
  | H1 m n hm ih =>
    intro h1 h2
    rw [Nat.gcd_rec]
    refine ih ?_ h1
    have e : g ^ n % p = g ^ (n % m) % p := by
      conv => lhs; rw [← Nat.div_add_mod n m, Nat.pow_add, Nat.pow_mul, Nat.mul_mod, Nat.pow_mod, h1, Nat.one_pow, Nat.mod_eq_of_lt hp, Nat.one_mul, Nat.mod_mod]
    rw [← e]; exact h2
def PrmL (L : List Nat) : Prop := ∀ q ∈ L, 2 ≤ q ∧ ∀ d, d ≤ q → d ∣ q → d = 1 ∨ d = q
theorem prod_div {e : Nat} : ∀ {L : List Nat}, PrmL L → e ∣ L.foldr (· * ·) 1 → (∀ q ∈ L, ¬ q ∣ e) → e = 1
  | [], _, h, _ => Nat.dvd_one.1 h
  | q :: L, hL, h, hn => by
    refine prod_div (L := L) (fun q hq => hL q (List.mem_cons_of_mem _ hq)) ?_ (fun q hq => hn q (List.mem_cons_of_mem _ hq))
    obtain ⟨h1, h2⟩ := hL q List.mem_cons_self
    have hco : Nat.Coprime e q := by
      have hd := Nat.gcd_dvd_right e q
      rcases h2 _ (Nat.le_of_dvd (by omega) hd) hd with h3 | h3
      · exact h3
      · exact absurd (by rw [← h3]; exact Nat.gcd_dvd_left e q) (hn q List.mem_cons_self)
    exact hco.dvd_of_dvd_mul_left h
/-- g is a primitive root modulo p -/
structure Root (p g : Nat) (L : List Nat) : Prop where
  hp : 2 < p
  one : g ^ (p - 1) % p = 1
  prm : PrmL L
  prod : L.foldr (· * ·) 1 = p - 1
  no : ∀ q ∈ L, g ^ ((p - 1) / q) % p ≠ 1
variable {L : List Nat} (h : Root p g L)
include h
theorem Root.order {d : Nat} (h0 : 0 < d) (hd : d < p - 1) : g ^ d % p ≠ 1 := by
  intro hg
  have hh := pow_gcd (by have := h.hp; omega) d (p - 1) hg h.one
  obtain ⟨k, hk⟩ : ∃ k, Nat.gcd d (p - 1) = k := ⟨_, rfl⟩
  obtain ⟨e, he⟩ := Nat.gcd_dvd_right d (p - 1)
  have hkd : k ≤ d := by rw [← hk]; exact Nat.gcd_le_left _ h0
  rw [hk] at hh he
  have hn : ∃ q, q ∈ L ∧ q ∣ e := by
    apply Classical.byContradiction
    intro hno
    have he1 := prod_div (e := e) h.prm (by rw [h.prod, he]; exact Nat.dvd_mul_left ..) (fun q hq hd => hno ⟨q, hq, hd⟩)
    rw [he1, Nat.mul_one] at he
    omega
  obtain ⟨q, hq, f, rfl⟩ := hn
  have hq2 := (h.prm q hq).1
  refine h.no q hq ?_
  have : (p - 1) / q = k * f := by
    rw [he, Nat.mul_left_comm, Nat.mul_div_cancel_left _ (by omega)]
  rw [this, Nat.pow_mul, Nat.pow_mod, hh, Nat.one_pow, Nat.mod_eq_of_lt (by have := h.hp; omega)]
theorem Root.pair {i : Nat} (hi : i ≤ p - 1) : g ^ i * g ^ (p - 1 - i) % p = 1 := by
  rw [← Nat.pow_add, show i + (p - 1 - i) = p - 1 by omega]; exact h.one
theorem Root.inj_ {i j : Nat} (hij : i < j) (hj : j < p - 1) : g ^ i % p ≠ g ^ j % p := by
  intro e
  refine h.order (d := j - i) (by omega) (by omega) ?_
  have h1 := h.pair (i := i) (by omega)
  rw [Nat.mul_mod, e, ← Nat.mul_mod, ← Nat.pow_add, show j + (p - 1 - i) = (p - 1) + (j - i) by omega, Nat.pow_add, Nat.mul_mod, h.one, Nat.one_mul, Nat.mod_mod] at h1
  exact h1
theorem Root.pos {i : Nat} (hi : i ≤ p - 1) : 0 < g ^ i % p := by
  rcases Nat.eq_zero_or_pos (g ^ i % p) with e | e
  · have h1 := h.pair hi
    rw [Nat.mul_mod, e, Nat.zero_mul, Nat.zero_mod] at h1
    cases h1
  · exact e
omit h in
theorem onto_of {N : Nat} {f : Nat → Nat} (hf : ∀ i, i < N → f i < N) (hi : ∀ i j, i < j → j < N → f i ≠ f j) {y : Nat} (hy : y < N) : ∃ i, i < N ∧ f i = y := by
  apply Classical.byContradiction
  intro hno
  have hnd : ((List.range N).map f).Nodup := by
    rw [List.Nodup, List.pairwise_map]
    refine (List.pairwise_lt_range (n := N)).imp_of_mem ?_
    intro a b _ hb hab
    exact hi a b hab (List.mem_range.1 hb)
  have hsub : (List.range N).map f ⊆ (List.range N).erase y := by
    intro x hx
    rw [List.mem_map] at hx
    obtain ⟨i, hi, rfl⟩ := hx
    rw [List.mem_range] at hi
    rw [List.mem_erase_of_ne (fun e => hno ⟨i, hi, e⟩)]
    exact List.mem_range.2 (hf i hi)
  have := hnd.length_le_of_subset hsub
  rw [List.length_map, List.length_range, List.length_erase_of_mem (List.mem_range.2 hy), List.length_range] at this
  omega
theorem Root.fermat {a : Nat} (h0 : 0 < a) (ha : a < p) : a ^ (p - 1) % p = 1 := by
  have hp := h.hp
  obtain ⟨i, hi, e⟩ := onto_of (N := p - 1) (f := fun i => g ^ i % p - 1) (fun i hi => by
      have := h.pos (i := i) (by omega)
      have := Nat.mod_lt (g ^ i) (show 0 < p by omega)
      show g ^ i % p - 1 < p - 1
      omega) (fun i j hij hj e => h.inj_ hij hj (by
      have := h.pos (i := i) (by omega)
      have := h.pos (i := j) (by omega)
      have e : g ^ i % p - 1 = g ^ j % p - 1 := e
      omega)) (y := a - 1) (by omega)
  have e : g ^ i % p - 1 = a - 1 := e
  have := h.pos (i := i) (by omega)
  have ea : a = g ^ i % p := by omega
  rw [ea, ← Nat.pow_mod, ← Nat.pow_mul, Nat.mul_comm, Nat.pow_mul, Nat.pow_mod, h.one, Nat.one_pow, Nat.mod_eq_of_lt (by omega)]
end

/-- powers, by squaring -/
def pwm (p : Nat) : Nat → Nat → Nat → Nat → Nat
  | 0, r, _, _ => r
  | f + 1, r, a, e => if e = 0 then r else pwm p f (if e % 2 = 1 then r * a % p else r) (a * a % p) (e / 2)
theorem pwm_eq {p : Nat} : ∀ (f r a e : Nat), e < 2 ^ f → pwm p f r a e % p = r * a ^ e % p
  | 0, r, a, e, h => by
    rw [Nat.pow_zero] at h
    rw [show e = 0 by omega, Nat.pow_zero, Nat.mul_one]; rfl
  | f + 1, r, a, e, h => by
    rw [Nat.pow_succ] at h
    rw [pwm]
    split
    · rename_i h0; rw [h0, Nat.pow_zero, Nat.mul_one]
    · rw [pwm_eq f _ _ _ (by omega)]
      have key : ∀ x, x * (a * a % p) ^ (e / 2) % p = x * a ^ (2 * (e / 2)) % p := by
        intro x
        rw [Nat.mul_mod, ← Nat.pow_mod, ← Nat.mul_mod, Nat.mul_pow, ← Nat.pow_add, Nat.two_mul]
      rw [key]
      split
      · rw [Nat.mod_mul_mod, Nat.mul_assoc, ← Nat.pow_succ']
        congr 3; omega
      · congr 3; omega
def ML : List Nat := [2, 3, 3, 5, 5, 7, 11, 13, 31, 41, 61, 151, 331, 1321]
theorem ml_prm : PrmL ML := by
  have : ∀ q ∈ ML, 2 ≤ q ∧ ∀ d, d < q + 1 → d ∣ q → d = 1 ∨ d = q := by decide +kernel
  exact fun q hq => ⟨(this q hq).1, fun d hd => (this q hq).2 d (by omega)⟩
theorem pw37 {e : Nat} (he : e < 2 ^ 61) : 37 ^ e % PM = pwm PM 61 1 37 e % PM := by rw [pwm_eq 61 1 37 e he, Nat.one_mul]
theorem root37 : Root PM 37 ML := by
  have hpm : PM - 1 < 2 ^ 61 := by decide
  refine ⟨by decide, ?_, ml_prm, by decide +kernel, fun q hq => ?_⟩
  · rw [pw37 hpm]; decide +kernel
  · rw [pw37 (Nat.lt_of_le_of_lt (Nat.div_le_self _ _) hpm)]
    revert q
    decide +kernel
theorem inv_mul {a : Nat} (h0 : 0 < a) (ha : a < PM) : a * invN a % PM = 1 := by
  have h := root37.fermat h0 ha
  unfold invN
  rw [Nat.one_mul, Nat.mul_mod, Nat.mod_mod, ← Nat.mul_mod, ← Nat.pow_succ']
  exact h
theorem inv_lt (a : Nat) : invN a < PM := Nat.mod_lt _ (by decide)
end Go.Proofs.Yteanhbldhaiekaa
