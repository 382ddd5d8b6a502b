/-
  The inverse modulo the great prime, by a primitive root. No program here.
-/
import Derived.Test.YteanhbldhaiekaaNum
namespace Go.Proofs.Yteanhbldhaiekaa

section
variable {p g : Nat}
theorem pow_gcd (hp : 1 < p) : ∀ a b : Nat, g ^ a % p = 1 → g ^ b % p = 1 → g ^ Nat.gcd a b % p = 1 := by
  intro a b
  induction a, b using Nat.gcd.induction with
  | H0 n => intro _ h; rwa [Nat.gcd_zero_left]
  | H1 m n hm ih =>
    intro h1 h2
    rw [Nat.gcd_rec]
    refine ih ?_ h1
    have e : g ^ n % p = g ^ (n % m) % p := by
      conv => lhs; rw [← Nat.div_add_mod n m, Nat.pow_add, Nat.pow_mul, Nat.mul_mod, Nat.pow_mod, h1, Nat.one_pow, Nat.mod_eq_of_lt hp, Nat.one_mul, Nat.mod_mod]
    rw [← e]; exact h2
def PrmL (L : List Nat) : Prop := ∀ q ∈ L, 2 ≤ q ∧ ∀ d, d ≤ q → d ∣ q → d = 1 ∨ d = q
theorem prod_div {e : Nat} : ∀ {L : List Nat}, PrmL L → e ∣ L.foldr (· * ·) 1 → (∀ q ∈ L, ¬ q ∣ e) → e = 1
  | [], _, h, _ => Nat.dvd_one.1 h
  | q :: L, hL, h, hn => by
    refine prod_div (L := L) (fun q hq => hL q (List.mem_cons_of_mem _ hq)) ?_ (fun q hq => hn q (List.mem_cons_of_mem _ hq))
    obtain ⟨h1, h2⟩ := hL q List.mem_cons_self
    have hco : Nat.Coprime e q := by
      have hd := Nat.gcd_dvd_right e q
      rcases h2 _ (Nat.le_of_dvd (by omega) hd) hd with h3 | h3
      · exact h3
      · exact absurd (by rw [← h3]; exact Nat.gcd_dvd_left e q) (hn q List.mem_cons_self)
    exact hco.dvd_of_dvd_mul_left h
/-- g is a primitive root modulo p -/
structure Root (p g : Nat) (L : List Nat) : Prop where
  hp : 2 < p
  one : g ^ (p - 1) % p = 1
  prm : PrmL L
  prod : L.foldr (· * ·) 1 = p - 1
  no : ∀ q ∈ L, g ^ ((p - 1) / q) % p ≠ 1
variable {L : List Nat} (h : Root p g L)
include h
theorem Root.order {d : Nat} (h0 : 0 < d) (hd : d < p - 1) : g ^ d % p ≠ 1 := by
  intro hg
  have hh := pow_gcd (by have := h.hp; omega) d (p - 1) hg h.one
  obtain ⟨k, hk⟩ : ∃ k, Nat.gcd d (p - 1) = k := ⟨_, rfl⟩
  obtain ⟨e, he⟩ := Nat.gcd_dvd_right d (p - 1)
  have hkd : k ≤ d := by rw [← hk]; exact Nat.gcd_le_left _ h0
  rw [hk] at hh he
  have hn : ∃ q, q ∈ L ∧ q ∣ e := by
    apply Classical.byContradiction
    intro hno
    have he1 := prod_div (e := e) h.prm (by rw [h.prod, he]; exact Nat.dvd_mul_left ..) (fun q hq hd => hno ⟨q, hq, hd⟩)
    rw [he1, Nat.mul_one] at he
    omega
  obtain ⟨q, hq, f, rfl⟩ := hn
  have hq2 := (h.prm q hq).1
  refine h.no q hq ?_
  have : (p - 1) / q = k * f := by
    rw [he, Nat.mul_left_comm, Nat.mul_div_cancel_left _ (by omega)]
  rw [this, Nat.pow_mul, Nat.pow_mod, hh, Nat.one_pow, Nat.mod_eq_of_lt (by have := h.hp; omega)]
theorem Root.pair {i : Nat} (hi : i ≤ p - 1) : g ^ i * g ^ (p - 1 - i) % p = 1 := by
  rw [← Nat.pow_add, show i + (p - 1 - i) = p - 1 by omega]; exact h.one
theorem Root.inj_ {i j : Nat} (hij : i < j) (hj : j < p - 1) : g ^ i % p ≠ g ^ j % p := by
  intro e
  refine h.order (d := j - i) (by omega) (by omega) ?_
  have h1 := h.pair (i := i) (by omega)
  rw [Nat.mul_mod, e, ← Nat.mul_mod, ← Nat.pow_add, show j + (p - 1 - i) = (p - 1) + (j - i) by omega, Nat.pow_add, Nat.mul_mod, h.one, Nat.one_mul, Nat.mod_mod] at h1
  exact h1
theorem Root.pos {i : Nat} (hi : i ≤ p - 1) : 0 < g ^ i % p := by
  rcases Nat.eq_zero_or_pos (g ^ i % p) with e | e
  · have h1 := h.pair hi
    rw [Nat.mul_mod, e, Nat.zero_mul, Nat.zero_mod] at h1
    cases h1
  · exact e
omit h in
theorem onto_of {N : Nat} {f : Nat → Nat} (hf : ∀ i, i < N → f i < N) (hi : ∀ i j, i < j → j < N → f i ≠ f j) {y : Nat} (hy : y < N) : ∃ i, i < N ∧ f i = y := by
  apply Classical.byContradiction
  intro hno
  have hnd : ((List.range N).map f).Nodup := by
    rw [List.Nodup, List.pairwise_map]
    refine (List.pairwise_lt_range (n := N)).imp_of_mem ?_
    intro a b _ hb hab
    exact hi a b hab (List.mem_range.1 hb)
  have hsub : (List.range N).map f ⊆ (List.range N).erase y := by
    intro x hx
    rw [List.mem_map] at hx
    obtain ⟨i, hi, rfl⟩ := hx
    rw [List.mem_range] at hi
    rw [List.mem_erase_of_ne (fun e => hno ⟨i, hi, e⟩)]
    exact List.mem_range.2 (hf i hi)
  have := hnd.length_le_of_subset hsub
  rw [List.length_map, List.length_range, List.length_erase_of_mem (List.mem_range.2 hy), List.length_range] at this
  omega
theorem Root.fermat {a : Nat} (h0 : 0 < a) (ha : a < p) : a ^ (p - 1) % p = 1 := by
  have hp := h.hp
  obtain ⟨i, hi, e⟩ := onto_of (N := p - 1) (f := fun i => g ^ i % p - 1) (fun i hi => by
      have := h.pos (i := i) (by omega)
      have := Nat.mod_lt (g ^ i) (show 0 < p by omega)
      show g ^ i % p - 1 < p - 1
      omega) (fun i j hij hj e => h.inj_ hij hj (by
      have := h.pos (i := i) (by omega)
      have := h.pos (i := j) (by omega)
      have e : g ^ i % p - 1 = g ^ j % p - 1 := e
      omega)) (y := a - 1) (by omega)
  have e : g ^ i % p - 1 = a - 1 := e
  have := h.pos (i := i) (by omega)
  have ea : a = g ^ i % p := by omega
  rw [ea, ← Nat.pow_mod, ← Nat.pow_mul, Nat.mul_comm, Nat.pow_mul, Nat.pow_mod, h.one, Nat.one_pow, Nat.mod_eq_of_lt (by omega)]
end

/-- powers, by squaring -/
def pwm (p : Nat) : Nat → Nat → Nat → Nat → Nat
  | 0, r, _, _ => r
  | f + 1, r, a, e => if e = 0 then r else pwm p f (if e % 2 = 1 then r * a % p else r) (a * a % p) (e / 2)
theorem pwm_eq {p : Nat} : ∀ (f r a e : Nat), e < 2 ^ f → pwm p f r a e % p = r * a ^ e % p
  | 0, r, a, e, h => by
    rw [Nat.pow_zero] at h
    rw [show e = 0 by omega, Nat.pow_zero, Nat.mul_one]; rfl
  | f + 1, r, a, e, h => by
    rw [Nat.pow_succ] at h
    rw [pwm]
    split
    · rename_i h0; rw [h0, Nat.pow_zero, Nat.mul_one]
    · rw [pwm_eq f _ _ _ (by omega)]
      have key : ∀ x, x * (a * a % p) ^ (e / 2) % p = x * a ^ (2 * (e / 2)) % p := by
        intro x
        rw [Nat.mul_mod, ← Nat.pow_mod, ← Nat.mul_mod, Nat.mul_pow, ← Nat.pow_add, Nat.two_mul]
      rw [key]
      split
      · rw [Nat.mod_mul_mod, Nat.mul_assoc, ← Nat.pow_succ']
        congr 3; omega
      · congr 3; omega
def ML : List Nat := [2, 3, 3, 5, 5, 7, 11, 13, 31, 41, 61, 151, 331, 1321]
theorem ml_prm : PrmL ML := by
  have : ∀ q ∈ ML, 2 ≤ q ∧ ∀ d, d < q + 1 → d ∣ q → d = 1 ∨ d = q := by decide +kernel
  exact fun q hq => ⟨(this q hq).1, fun d hd => (this q hq).2 d (by omega)⟩
theorem pw37 {e : Nat} (he : e < 2 ^ 61) : 37 ^ e % PM = pwm PM 61 1 37 e % PM := by rw [pwm_eq 61 1 37 e he, Nat.one_mul]
theorem root37 : Root PM 37 ML := by
  have hpm : PM - 1 < 2 ^ 61 := by decide
  refine ⟨by decide, ?_, ml_prm, by decide +kernel, fun q hq => ?_⟩
  · rw [pw37 hpm]; decide +kernel
  · rw [pw37 (Nat.lt_of_le_of_lt (Nat.div_le_self _ _) hpm)]
    revert q
    decide +kernel
theorem inv_mul {a : Nat} (h0 : 0 < a) (ha : a < PM) : a * invN a % PM = 1 := by
  have h := root37.fermat h0 ha
  unfold invN
  rw [Nat.one_mul, Nat.mul_mod, Nat.mod_mod, ← Nat.mul_mod, ← Nat.pow_succ']
  exact h
theorem inv_lt (a : Nat) : invN a < PM := Nat.mod_lt _ (by decide)
end Go.Proofs.Yteanhbldhaiekaa

