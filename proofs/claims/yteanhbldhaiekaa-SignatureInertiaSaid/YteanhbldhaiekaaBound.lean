/-
  Minors are bounded by the product of the sums of the rows. No program here.
-/
import Derived.Test.YteanhbldhaiekaaKer
namespace Go.Proofs.Yteanhbldhaiekaa

def sN : Nat → (Nat → Nat) → Nat
  | 0, _ => 0
  | n + 1, f => sN n f + f n
theorem sN_congr : ∀ {n : Nat} {f g : Nat → Nat}, (∀ k, k < n → f k = g k) → sN n f = sN n g
  | 0, _, _, _ => rfl
  | n + 1, f, g, h => by show sN n f + f n = sN n g + g n; rw [sN_congr fun k hk => h k (by omega), h n (by omega)]
theorem sN_le : ∀ {n : Nat} {f g : Nat → Nat}, (∀ k, k < n → f k ≤ g k) → sN n f ≤ sN n g
  | 0, _, _, _ => Nat.le_refl _
  | n + 1, f, g, h => by
    have h1 := sN_le (n := n) (f := f) (g := g) fun k hk => h k (by omega)
    have h2 := h n (by omega)
    show sN n f + f n ≤ sN n g + g n
    omega
theorem sN_mul : ∀ (n t : Nat) (f : Nat → Nat), sN n (fun k => f k * t) = sN n f * t
  | 0, t, _ => (Nat.zero_mul t).symm
  | n + 1, t, f => by show sN n _ + f n * t = (sN n f + f n) * t; rw [sN_mul n t f, Nat.add_mul]
theorem natAbs_sI : ∀ (n : Nat) (f : Nat → Int), (sI n f).natAbs ≤ sN n fun k => (f k).natAbs
  | 0, _ => Nat.le_refl _
  | n + 1, f => by
    have := natAbs_sI n f
    have h2 := Int.natAbs_add_le (sI n f) (f n)
    show (sI n f + f n).natAbs ≤ sN n _ + (f n).natAbs
    omega
theorem sN_sk {j : Nat} : ∀ {n : Nat} (f : Nat → Nat), j < n + 1 → sN (n + 1) f = sN n (fun k => f (sk j k)) + f j
  | 0, f, h => by rw [show j = 0 by omega]; rfl
  | n + 1, f, h => by
    show sN (n + 1) f + f (n + 1) = (sN n (fun k => f (sk j k)) + f (sk j n)) + f j
    by_cases e : j = n + 1
    · subst e
      rw [show sk (n + 1) n = n by unfold sk; rw [if_pos (by omega)], sN_congr (n := n) (g := f) fun k hk => by show f (sk (n + 1) k) = f k; unfold sk; rw [if_pos (by omega)]]
      rfl
    · rw [sN_sk (j := j) (n := n) f (by omega), show sk j n = n + 1 by unfold sk; rw [if_neg (by omega)]]
      omega
theorem pN_sk {j : Nat} : ∀ {n : Nat} (f : Nat → Nat), j < n + 1 → pN (n + 1) f = pN n (fun k => f (sk j k)) * f j
  | 0, f, h => by rw [show j = 0 by omega]; rfl
  | n + 1, f, h => by
    show pN (n + 1) f * f (n + 1) = (pN n (fun k => f (sk j k)) * f (sk j n)) * f j
    by_cases e : j = n + 1
    · subst e
      rw [show sk (n + 1) n = n by unfold sk; rw [if_pos (by omega)], pN_congr (n := n) (g := f) fun k hk => by show f (sk (n + 1) k) = f k; unfold sk; rw [if_pos (by omega)]]
      rfl
    · rw [pN_sk (j := j) (n := n) f (by omega), show sk j n = n + 1 by unfold sk; rw [if_neg (by omega)], Nat.mul_assoc, Nat.mul_assoc, Nat.mul_comm (f j)]
theorem pN_le : ∀ {n : Nat} {f g : Nat → Nat}, (∀ k, k < n → f k ≤ g k) → pN n f ≤ pN n g
  | 0, _, _, _ => Nat.le_refl _
  | n + 1, f, g, h => Nat.mul_le_mul (pN_le fun k hk => h k (by omega)) (h n (by omega))
theorem pN_pos : ∀ {n : Nat} {f : Nat → Nat}, (∀ k, k < n → 1 ≤ f k) → 1 ≤ pN n f
  | 0, _, _ => Nat.le_refl _
  | n + 1, f, h => Nat.mul_le_mul (m₁ := 1) (n₁ := 1) (pN_pos fun k hk => h k (by omega)) (h n (by omega))
/-- the numbers without J, numbered anew -/
def uk (J k : Nat) : Nat := if k < J then k else k - 1
theorem sk_uk {J k : Nat} (h : k ≠ J) : sk J (uk J k) = k := by
  unfold sk uk
  by_cases h1 : k < J
  · rw [if_pos h1, if_pos h1]
  · rw [if_neg h1, if_neg (by omega)]; omega
theorem uk_lt {J k n : Nat} (h : k ≠ J) (hk : k < n + 1) (hJ : J < n + 1) : uk J k < n := by unfold uk; split <;> omega
/-- through an injection -/
theorem sN_inj : ∀ {k c : Nat} {js : Nat → Nat} (f : Nat → Nat), (∀ a b, a < k → b < k → js a = js b → a = b) → (∀ b, b < k → js b < c) → sN k (fun b => f (js b)) ≤ sN c f
  | 0, _, _, _, _, _ => Nat.zero_le _
  | k + 1, c, js, f, hi, hl => by
    have hJ := hl k (by omega)
    obtain ⟨c', rfl⟩ : ∃ x, c = x + 1 := ⟨c - 1, by omega⟩
    have hne : ∀ b, b < k → js b ≠ js k := fun b hb e => by have := hi b k (by omega) (by omega) e; omega
    rw [sN_sk f hJ]
    have ih := sN_inj (k := k) (c := c') (js := fun b => uk (js k) (js b)) (fun x => f (sk (js k) x)) (fun a b ha hb e => hi a b (by omega) (by omega) (by
      have e : uk (js k) (js a) = uk (js k) (js b) := e
      rw [← sk_uk (hne a ha), ← sk_uk (hne b hb), e])) (fun b hb => uk_lt (hne b hb) (hl b (by omega)) hJ)
    rw [sN_congr (g := fun b => f (js b)) fun b hb => by rw [sk_uk (hne b hb)]] at ih
    show sN k _ + f (js k) ≤ _
    omega
theorem pN_inj : ∀ {k n : Nat} {js : Nat → Nat} (f : Nat → Nat), (∀ i, i < n → 1 ≤ f i) → (∀ a b, a < k → b < k → js a = js b → a = b) → (∀ b, b < k → js b < n) → pN k (fun b => f (js b)) ≤ pN n f
  | 0, _, _, _, h1, _, _ => pN_pos h1
  | k + 1, n, js, f, h1, hi, hl => by
    have hJ := hl k (by omega)
    obtain ⟨c', rfl⟩ : ∃ x, n = x + 1 := ⟨n - 1, by omega⟩
    have hne : ∀ b, b < k → js b ≠ js k := fun b hb e => by have := hi b k (by omega) (by omega) e; omega
    rw [pN_sk f hJ]
    have ih := pN_inj (k := k) (n := c') (js := fun b => uk (js k) (js b)) (fun x => f (sk (js k) x)) (fun i hi => h1 _ (sk_lt hi)) (fun a b ha hb e => hi a b (by omega) (by omega) (by
      have e : uk (js k) (js a) = uk (js k) (js b) := e
      rw [← sk_uk (hne a ha), ← sk_uk (hne b hb), e])) (fun b hb => uk_lt (hne b hb) (hl b (by omega)) hJ)
    rw [pN_congr (g := fun b => f (js b)) fun b hb => by rw [sk_uk (hne b hb)]] at ih
    exact Nat.mul_le_mul ih (Nat.le_refl _)
theorem natAbs_sg1 (j : Nat) : (sg1 j).natAbs = 1 := by unfold sg1; split <;> rfl
theorem det_bound : ∀ (k : Nat) (A : Mx), (det k A).natAbs ≤ pN k fun a => sN k fun b => (A a b).natAbs
  | 0, _ => Nat.le_refl _
  | k + 1, A => by
    rw [det_succ, pN_succ']
    refine Nat.le_trans (natAbs_sI _ _) ?_
    rw [← sN_mul]
    refine sN_le fun j hj => ?_
    rw [Int.natAbs_mul, Int.natAbs_mul, natAbs_sg1, Nat.one_mul]
    refine Nat.mul_le_mul_left _ (Nat.le_trans (det_bound k _) (pN_le fun a _ => ?_))
    have := sN_sk (j := j) (fun b => (A (a + 1) b).natAbs) hj
    omega
/-- the bound of a matrix -/
def bndM (n c : Nat) (m : Mx) : Nat := pN n fun i => max (sN c fun j => (m i j).natAbs) 1
theorem minor_bound {n c k : Nat} (m : Mx) {is js : Nat → Nat} (hi : ∀ a b, a < k → b < k → is a = is b → a = b) (hil : ∀ a, a < k → is a < n) (hj : ∀ a b, a < k → b < k → js a = js b → a = b) (hjl : ∀ a, a < k → js a < c) :
    (det k fun a b => m (is a) (js b)).natAbs ≤ bndM n c m := by
  refine Nat.le_trans (det_bound k _) ?_
  refine Nat.le_trans (pN_le (g := fun a => max (sN c fun j => (m (is a) j).natAbs) 1) fun a _ => ?_) (pN_inj (fun i => max (sN c fun j => (m i j).natAbs) 1) (fun _ _ => Nat.le_max_right ..) hi hil)
  exact Nat.le_trans (sN_inj (fun j => (m (is a) j).natAbs) hj hjl) (Nat.le_max_left ..)
/-- a minor divided by a greater number is nothing -/
theorem minor_zero {n c k p : Nat} {m : Mx} (hb : bndM n c m < p) (h : Dv n c k m (p : Int)) : Dv n c k m 0 := by
  intro is js his hjs
  have hd := h is js his hjs
  suffices hz : (det k fun a b => m (is a) (js b)) = 0 by rw [hz]; exact Int.dvd_refl 0
  by_cases hi : ∀ a b, a < k → b < k → is a = is b → a = b
  · by_cases hj : ∀ a b, a < k → b < k → js a = js b → a = b
    · have hm := minor_bound m hi his hj hjs
      obtain ⟨t, ht⟩ := hd
      rw [ht] at hm ⊢
      rw [Int.natAbs_mul, Int.natAbs_natCast] at hm
      have : t.natAbs = 0 := by
        rcases Nat.eq_zero_or_pos t.natAbs with h | h
        · exact h
        · have := Nat.mul_le_mul_left p h; omega
      rw [Int.natAbs_eq_zero.1 this, Int.mul_zero]
    · have : ∃ a b, a < k ∧ b < k ∧ a ≠ b ∧ js a = js b := by
        apply Classical.byContradiction
        intro hno
        exact hj fun a b ha hb e => by
          apply Classical.byContradiction
          exact fun hne => hno ⟨a, b, ha, hb, hne, e⟩
      obtain ⟨a, b, ha, hb', hne, e⟩ := this
      exact det_cols ha hb' hne fun i _ => by rw [e]
  · have : ∃ a b, a < k ∧ b < k ∧ a ≠ b ∧ is a = is b := by
      apply Classical.byContradiction
      intro hno
      exact hi fun a b ha hb e => by
        apply Classical.byContradiction
        exact fun hne => hno ⟨a, b, ha, hb, hne, e⟩
    obtain ⟨a, b, ha, hb', hne, e⟩ := this
    exact det_rows ha hb' hne fun j _ => by rw [e]
/-- determinants of matrices that are alike modulo p -/
theorem det_mod {p : Int} : ∀ {k : Nat} {A B : Mx}, (∀ i j, i < k → j < k → p ∣ A i j - B i j) → p ∣ det k A - det k B
  | 0, _, _, _ => ⟨0, by show (1 : Int) - 1 = p * 0; rw [Int.mul_zero]; rfl⟩
  | k + 1, A, B, h => by
    rw [det_succ, det_succ]
    have e : ∀ f g : Nat → Int, sI (k + 1) f - sI (k + 1) g = sI (k + 1) fun j => f j - g j := fun f g => by
      have := sI_add (k + 1) (fun j => f j - g j) g
      rw [sI_congr (g := f) fun j _ => by show f j - g j + g j = f j; omega] at this
      omega
    rw [e]
    refine dvd_sI fun j hj => ?_
    have h1 := h 0 j (by omega) hj
    have h2 := det_mod (p := p) (k := k) (A := fun i l => A (i + 1) (sk j l)) (B := fun i l => B (i + 1) (sk j l)) fun i l hi hl => h (i + 1) (sk j l) (by omega) (sk_lt hl)
    generalize det k (fun i l => A (i + 1) (sk j l)) = x at h2
    generalize det k (fun i l => B (i + 1) (sk j l)) = y at h2
    have e2 : sg1 j * A 0 j * x - sg1 j * B 0 j * y = (A 0 j - B 0 j) * (sg1 j * x) + (x - y) * (sg1 j * B 0 j) := by
      rw [Int.sub_mul, Int.sub_mul, ← Int.mul_assoc, ← Int.mul_assoc, ← Int.mul_assoc, ← Int.mul_assoc, Int.mul_comm (A 0 j), Int.mul_comm (B 0 j)]
      rw [Int.mul_comm x (sg1 j), Int.mul_comm y (sg1 j), Int.mul_right_comm (sg1 j) x, Int.mul_right_comm (sg1 j) y]
      omega
    rw [e2]
    exact Int.dvd_add (Int.dvd_trans h1 (Int.dvd_mul_right ..)) (Int.dvd_trans h2 (Int.dvd_mul_right ..))
end Go.Proofs.Yteanhbldhaiekaa

