/-
  The invariant factors out of a diagonal modulo twice a minor: the second phase of factors. No program here.
-/
import Derived.Test.YteanhbldhaiekaaZ13
import Derived.Test.YteanhbldhaiekaaZ07
import Derived.Test.YteanhbldhaiekaaZ06
namespace Go.Proofs.Yteanhbldhaiekaa

theorem gcd_lcm_prod {q x y : Nat} (hq : 0 < q) (hx : 0 < x) : Nat.gcd q (Nat.gcd x y) * Nat.gcd q (x / Nat.gcd x y * y) = Nat.gcd q x * Nat.gcd q y := by
  have hg : 0 < Nat.gcd x y := Nat.gcd_pos_of_pos_left y hx
  obtain ⟨x', ex⟩ := Nat.gcd_dvd_left x y
  obtain ⟨y', ey⟩ := Nat.gcd_dvd_right x y
  have c1 : Nat.gcd x' y' = 1 := by
    have : Nat.gcd x y * Nat.gcd x' y' = Nat.gcd x y * 1 := by rw [← Nat.gcd_mul_left, ← ex, ← ey, Nat.mul_one]
    exact Nat.eq_of_mul_eq_mul_left hg this
  generalize Nat.gcd x y = g at *
  subst ex ey
  rw [Nat.mul_div_cancel_left _ hg]
  have hh : 0 < Nat.gcd q g := Nat.gcd_pos_of_pos_left g hq
  obtain ⟨q', eq⟩ := Nat.gcd_dvd_left q g
  obtain ⟨g', eg⟩ := Nat.gcd_dvd_right q g
  have c2 : Nat.gcd q' g' = 1 := by
    have : Nat.gcd q g * Nat.gcd q' g' = Nat.gcd q g * 1 := by rw [← Nat.gcd_mul_left, ← eq, ← eg, Nat.mul_one]
    exact Nat.eq_of_mul_eq_mul_left hh this
  have key : ∀ z, Nat.gcd q (g * z) = Nat.gcd q g * Nat.gcd q' z := by
    intro z
    generalize Nat.gcd q g = h at *
    subst eq eg
    rw [Nat.mul_assoc, Nat.gcd_mul_left, Nat.gcd_mul_right_right_of_gcd_eq_one c2]
  rw [show x' * (g * y') = g * (x' * y') from Nat.mul_left_comm .., key, key, key, Nat.Coprime.gcd_mul q' c1]
  rw [Nat.mul_assoc, Nat.mul_left_comm (Nat.gcd q' x')]
theorem pN_up {x : Nat → Nat} {v : Nat} : ∀ {m i : Nat}, i < m → pN m (fun j => if j = i then v else x j) * x i = pN m x * v
  | m + 1, i, hi => by
    show pN m _ * (if m = i then v else x m) * x i = pN m x * x m * v
    by_cases e : m = i
    · subst e
      rw [if_pos rfl, pN_congr (g := x) fun k hk => if_neg (by omega), Nat.mul_assoc, Nat.mul_assoc, Nat.mul_comm v]
    · rw [if_neg e, Nat.mul_right_comm, pN_up (show i < m by omega), Nat.mul_right_comm]
/-- two numbers of a list are exchanged for two others with the same product -/
theorem pN_two {m i k a b : Nat} {x : Nat → Nat} (hi : i < m) (hk : k < m) (hne : i ≠ k) (h : a * b = x i * x k) (h0 : 0 < x i * x k) :
    pN m (fun j => if j = i then a else if j = k then b else x j) = pN m x := by
  have e1 := pN_up (x := fun j => if j = k then b else x j) (v := a) hi
  have e2 := pN_up (x := x) (v := b) hk
  rw [if_neg hne] at e1
  refine Nat.eq_of_mul_eq_mul_right h0 ?_
  rw [← Nat.mul_assoc, e1, Nat.mul_right_comm, e2, Nat.mul_assoc, Nat.mul_comm b, h]
/-- what the pairs keep: the first i divide all behind them; the i-th one divides those up to k -/
structure FPh (m M : Nat) (e : Nat → Nat) (i k : Nat) (x : Nat → Nat) : Prop where
  dv : ∀ j, j < m → x j ∣ M
  pr : ∀ q, q ∣ M → pN m (fun j => Nat.gcd q (x j)) = pN m (fun j => Nat.gcd q (e j))
  lo : ∀ a b, a < i → a < b → b < m → x a ∣ x b
  iN : ∀ b, i < b → b < k → b < m → x i ∣ x b
section
variable {m M i k : Nat} {e x : Nat → Nat}
theorem FPh.start (hM : 0 < M) (hdv : ∀ j, j < m → x j ∣ M) (hpr : ∀ q, 0 < q → q ∣ M → pN m (fun j => Nat.gcd q (x j)) = pN m (fun j => Nat.gcd q (e j))) : FPh m M e 0 1 x :=
  ⟨hdv, fun q hq => hpr q (Nat.pos_of_dvd_of_pos hq hM) hq, fun a b ha => by omega, fun b h1 h2 => by omega⟩
theorem FPh.next (h : FPh m M e i m x) : FPh m M e (i + 1) (i + 2) x :=
  ⟨h.dv, h.pr, fun a b ha hab hb => by
    by_cases ea : a = i
    · rw [ea] at hab ⊢; exact h.iN b hab hb hb
    · exact h.lo a b (by omega) hab hb, fun b h1 h2 => by omega⟩
theorem FPh.step (h : FPh m M e i k x) (hM : 0 < M) (hik : i < k) (hk : k < m) :
    FPh m M e i (k + 1) (fun j => if j = i then Nat.gcd (x i) (x k) else if j = k then x i / Nat.gcd (x i) (x k) * x k else x j) := by
  have hxi := Nat.pos_of_dvd_of_pos (h.dv i (by omega)) hM
  have hxk := Nat.pos_of_dvd_of_pos (h.dv k hk) hM
  have hg : 0 < Nat.gcd (x i) (x k) := Nat.gcd_pos_of_pos_left _ hxi
  have hl : x i / Nat.gcd (x i) (x k) * x k = Nat.lcm (x i) (x k) := by
    rw [Nat.lcm_eq_mul_div, Nat.div_mul_right_comm (Nat.gcd_dvd_left ..)]
  have hki : k ≠ i := by omega
  refine ⟨fun j hj => ?_, fun q hq => ?_, fun a b ha hab hb => ?_, fun b h1 h2 h3 => ?_⟩
  · (try dsimp only)
    split
    · exact Nat.dvd_trans (Nat.gcd_dvd_left ..) (h.dv i (by omega))
    · split
      · rw [hl]; exact Nat.lcm_dvd (h.dv i (by omega)) (h.dv k hk)
      · exact h.dv j hj
  · have hq0 := Nat.pos_of_dvd_of_pos hq hM
    rw [← h.pr q hq, ← pN_two (x := fun j => Nat.gcd q (x j)) (show i < m by omega) hk (Ne.symm hki) (gcd_lcm_prod hq0 hxi (y := x k)) (Nat.mul_pos (Nat.gcd_pos_of_pos_left _ hq0) (Nat.gcd_pos_of_pos_left _ hq0))]
    refine pN_congr fun j _ => ?_
    (try dsimp only)
    split
    · rfl
    · split <;> rfl
  · (try dsimp only)
    rw [if_neg (show ¬ a = i by omega), if_neg (show ¬ a = k by omega)]
    split
    · exact Nat.dvd_gcd (h.lo a i ha ha (by omega)) (h.lo a k ha (by omega) hk)
    · split
      · rw [hl]; exact Nat.dvd_trans (h.lo a k ha (by omega) hk) (Nat.dvd_lcm_right ..)
      · exact h.lo a b ha hab hb
  · (try dsimp only)
    rw [if_pos rfl, if_neg (show ¬ b = i by omega)]
    split
    · rw [hl]; exact Nat.dvd_trans (Nat.gcd_dvd_left ..) (Nat.dvd_lcm_left ..)
    · exact Nat.dvd_trans (Nat.gcd_dvd_left ..) (h.iN b h1 (by omega) h3)
theorem FPh.chain (h : FPh m M e m k x) : ∀ a b, a < b → b < m → x a ∣ x b := fun a b hab hb => h.lo a b (by omega) hab hb
end
theorem pN_le_ {n : Nat} {f g : Nat → Nat} (h : ∀ k, k < n → f k ≤ g k) : pN n f ≤ pN n g := by
  induction n with
  | zero => exact Nat.le_refl _
  | succ n ih => exact Nat.mul_le_mul (ih fun k hk => h k (by omega)) (h n (by omega))
theorem pN_pos_ {n : Nat} {f : Nat → Nat} (h : ∀ k, k < n → 0 < f k) : 0 < pN n f := by
  induction n with
  | zero => exact Nat.one_pos
  | succ n ih => exact Nat.mul_pos (ih fun k hk => h k (by omega)) (h n (by omega))
theorem pN_le_eq {n : Nat} {f g : Nat → Nat} (h : ∀ k, k < n → f k ≤ g k) (hp : ∀ k, k < n → 0 < f k) (he : pN n f = pN n g) : ∀ k, k < n → f k = g k := by
  induction n with
  | zero => exact fun k hk => by omega
  | succ n ih =>
    have l1 : pN n f ≤ pN n g := pN_le_ fun k hk => h k (by omega)
    have l2 := h n (by omega)
    have p1 : 0 < pN n f := pN_pos_ fun k hk => hp k (by omega)
    have p2 := hp n (by omega)
    have he' : pN n f * f n = pN n g * g n := he
    have e1 : f n = g n := by
      refine Nat.le_antisymm l2 (Nat.le_of_not_lt fun hlt => ?_)
      have := Nat.mul_lt_mul_of_le_of_lt l1 hlt (Nat.lt_of_lt_of_le p1 l1)
      omega
    have e2 : pN n f = pN n g := by rw [e1] at he'; exact Nat.eq_of_mul_eq_mul_right (by omega) he'
    intro k hk
    by_cases ek : k = n
    · rw [ek]; exact e1
    · exact ih (fun k hk => h k (by omega)) (fun k hk => hp k (by omega)) e2 k (by omega)
/-- a chain of divisors of M is told by the products -/
theorem chain_uniq {m M : Nat} {x e : Nat → Nat} (hM : 0 < M) (hx : ∀ a b, a < b → b < m → x a ∣ x b) (he : ∀ a b, a < b → b < m → e a ∣ e b) (dx : ∀ j, j < m → x j ∣ M) (de : ∀ j, j < m → e j ∣ M)
    (pr : ∀ q, q ∣ M → pN m (fun j => Nat.gcd q (x j)) = pN m (fun j => Nat.gcd q (e j))) : ∀ j, j < m → x j = e j := by
  have half : ∀ {x e : Nat → Nat} {k : Nat}, (∀ a b, a < b → b < m → x a ∣ x b) → (∀ j, j < m → x j ∣ M) → (∀ j, j < k → x j = e j) →
      (∀ q, q ∣ M → pN m (fun j => Nat.gcd q (x j)) = pN m (fun j => Nat.gcd q (e j))) → k < m → x k ∣ e k := by
    intro x e k hx dx hlo pr hk
    have h1 := (pr (x k) (dx k hk)).symm
    have h0 : 0 < x k := Nat.pos_of_dvd_of_pos (dx k hk) hM
    have := pN_le_eq (fun j hj => ?_) (fun j hj => Nat.gcd_pos_of_pos_left _ h0) h1 k hk
    · rw [Nat.gcd_self] at this
      exact this ▸ Nat.gcd_dvd_right (x k) (e k)
    · (try dsimp only)
      by_cases hjk : j < k
      · rw [hlo j hjk]; exact Nat.le_refl _
      · have : x k ∣ x j := by
          by_cases ejk : j = k
          · rw [ejk]; exact Nat.dvd_refl _
          · exact hx k j (by omega) hj
        rw [Nat.gcd_eq_left this]
        exact Nat.le_of_dvd h0 (Nat.gcd_dvd_left ..)
  intro j
  induction j using Nat.strongRecOn with
  | ind j ih =>
    intro hj
    exact Nat.dvd_antisymm (half hx dx (fun a ha => ih a ha (by omega)) pr hj) (half he de (fun a ha => (ih a ha (by omega)).symm) (fun q hq => (pr q hq).symm) hj)
theorem pN_app (f : Nat → Nat) (a : Nat) : ∀ b, pN (a + b) f = pN a f * pN b fun j => f (a + j)
  | 0 => (Nat.mul_one _).symm
  | b + 1 => by show pN (a + b) f * f (a + b) = pN a f * (pN b _ * f (a + b)); rw [pN_app f a b, Nat.mul_assoc]
theorem pN_cut {n c q : Nat} {f g : Nat → Nat} (hq : 0 < q) (h : pN c (fun j => if j < n then f j else q) = pN c fun j => if j < n then g j else q) : pN (min n c) f = pN (min n c) g := by
  have key : ∀ f : Nat → Nat, pN c (fun j => if j < n then f j else q) = pN (min n c) f * pN (c - min n c) fun _ => q := by
    intro f
    have e := pN_app (fun j => if j < n then f j else q) (min n c) (c - min n c)
    rw [show min n c + (c - min n c) = c by omega] at e
    rw [e, pN_congr (n := min n c) (g := f) fun j hj => if_pos (by omega), pN_congr (n := c - min n c) (g := fun _ => q) fun j hj => if_neg (by omega)]
  rw [key, key] at h
  exact Nat.eq_of_mul_eq_mul_right (pN_pos_ fun _ _ => hq) h
/-- the diagonal that the first phase leaves has the products of the invariant factors -/
theorem sm_prods {n c M : Nat} {m : Mx} {a : Nat → Nat → Nat} {d : Nat → Nat} (h : Sm n c M m a) (hd : Dg n c (min n c) a) (he : Eqv n c m (dgM d)) {q : Nat} (hq : 0 < q) (hqM : q ∣ M) :
    pN (min n c) (fun j => Nat.gcd q (Nat.gcd (a j j) M)) = pN (min n c) fun j => Nat.gcd q (Nat.gcd (d j) M) := by
  obtain ⟨⟨B, h1, h2⟩, -⟩ := h
  have hqm : (q : Int) ∣ (M : Int) := Int.natCast_dvd_natCast.2 hqM
  have e1 : kerN n c (dgM fun j => a j j) q = kerN n c (nM a) q := ker_mod hq fun i j hi hj => by
    unfold nM dgM
    by_cases e : i = j
    · subst e; rw [if_pos rfl]; exact ⟨0, by rw [Int.mul_zero]; exact Int.sub_self _⟩
    · rw [if_neg e, hd i j hi hj (by omega) e]; exact ⟨0, rfl⟩
  have e2 : kerN n c B q = kerN n c (nM a) q := ker_mod hq fun i j hi hj => Int.dvd_trans hqm (h2 i j hi hj)
  have e3 := ker_eqv hq h1
  have e4 := ker_eqv hq he
  have e5 : kerN n c (dgM fun j => a j j) q = kerN n c (dgM d) q := by rw [e1, ← e2, e3, e4]
  rw [ker_diag hq, ker_diag hq] at e5
  have := pN_cut hq e5
  rw [pN_congr (g := fun j => Nat.gcd q (a j j)) fun j _ => ?_, pN_congr (n := min n c) (f := fun j => Nat.gcd q (Nat.gcd (d j) M)) (g := fun j => Nat.gcd q (d j)) fun j _ => ?_]
  · exact this
  · (try dsimp only); rw [Nat.gcd_comm (d j), ← Nat.gcd_assoc, Nat.gcd_eq_left hqM]
  · (try dsimp only); rw [Nat.gcd_comm (a j j), ← Nat.gcd_assoc, Nat.gcd_eq_left hqM]
theorem gcd_chain {m M : Nat} {d : Nat → Nat} (h : Chain d m) : ∀ a b, a < b → b < m → Nat.gcd (d a) M ∣ Nat.gcd (d b) M := fun a b hab hb =>
  Nat.dvd_gcd (Nat.dvd_trans (Nat.gcd_dvd_left ..) (chain_dvd h (by omega) hb)) (Nat.gcd_dvd_right ..)
theorem dvd_pI {f : Nat → Nat} : ∀ {r j : Nat}, j < r → (f j : Int) ∣ pI r fun i => (f i : Int)
  | r + 1, j, hj => by
    show _ ∣ pI r _ * _
    by_cases e : j = r
    · rw [e]; exact Int.dvd_mul_left ..
    · exact Int.dvd_trans (dvd_pI (show j < r by omega)) (Int.dvd_mul_right ..)
/-- the invariant factors before the rank divide the minor, the others are 0 -/
theorem elr_fac {n c r : Nat} {m : Mx} {v : Int} {d : Nat → Nat} (h : ElR n c m r v) (he : Eqv n c m (dgM d)) (hd : Chain d (min n c)) :
    (∀ j, j < r → d j ∣ v.natAbs) ∧ (∀ j, r ≤ j → j < min n c → d j = 0) := by
  have hrn := h.rn
  have hrc := h.rc
  refine ⟨fun j hj => ?_, fun j hj hjm => ?_⟩
  · obtain ⟨is, js, s, i1, i2, hs, hv⟩ := h.mn
    have h1 := (dv_diag (n := n) (c := c) (k := r) (d := d) hd).eqv he.symm
    have h2 := Int.dvd_trans (dvd_pI hj) (h1 is js i1 i2)
    have h3 : (d j : Int) ∣ v := by rw [hv]; exact Int.dvd_trans h2 (Int.dvd_mul_left ..)
    exact Int.natCast_dvd_natCast.1 (Int.dvd_natAbs.2 h3)
  · have h1 := dv_lead (k := r + 1) (by omega) (h.up.eqv he)
    obtain ⟨i, hi, h0⟩ := pI_zero (Int.zero_dvd.1 h1)
    have := chain_dvd hd (show i ≤ j by omega) hjm
    rw [show d i = 0 by omega] at this
    exact Nat.eq_zero_of_zero_dvd this
/-- so the program's list is the list of the invariant factors -/
theorem fac_end {n c r : Nat} {m : Mx} {v : Int} {d : Nat → Nat} (h : ElR n c m r v) (he : Eqv n c m (dgM d)) (hd : Chain d (min n c)) {j : Nat} (hj : j < min n c) :
    d j < 2 * v.natAbs ∧ (if Nat.gcd (d j) (2 * v.natAbs) = 2 * v.natAbs then 0 else Nat.gcd (d j) (2 * v.natAbs)) = d j := by
  obtain ⟨h1, h2⟩ := elr_fac h he hd
  have hv : 0 < v.natAbs := Int.natAbs_pos.2 h.nz
  by_cases hjr : j < r
  · have h3 := h1 j hjr
    have h4 := Nat.le_of_dvd hv h3
    have h5 : Nat.gcd (d j) (2 * v.natAbs) = d j := Nat.gcd_eq_left (Nat.dvd_trans h3 (Nat.dvd_mul_left ..))
    rw [h5, if_neg (by omega)]
    exact ⟨by omega, rfl⟩
  · have h3 := h2 j (by omega) hj
    rw [h3, Nat.gcd_zero_left, if_pos rfl]
    exact ⟨by omega, rfl⟩
end Go.Proofs.Yteanhbldhaiekaa
