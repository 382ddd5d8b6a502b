/-
  The number of the solutions of a system modulo a number, counted by the digits of codes. No program here.
-/
import Derived.Test.YteanhbldhaiekaaZ06
namespace Go.Proofs.Yteanhbldhaiekaa

/-! ### counting -/
def cnt (P : Nat → Bool) (m : Nat) : Nat := ((List.range m).filter P).length
theorem cnt_zero (P : Nat → Bool) : cnt P 0 = 0 := rfl
theorem cnt_succ (P : Nat → Bool) (m : Nat) : cnt P (m + 1) = cnt P m + if P m = true then 1 else 0 := by
  unfold cnt
  rw [List.range_succ, List.filter_append, List.length_append]
  congr 1
  by_cases h : P m = true <;> simp [h]
theorem cnt_le (P : Nat → Bool) (m : Nat) : cnt P m ≤ m := by
  unfold cnt
  have := List.length_filter_le P (List.range m)
  simpa using this
theorem cnt_congr {P Q : Nat → Bool} {m : Nat} (h : ∀ x, x < m → P x = Q x) : cnt P m = cnt Q m := by
  unfold cnt
  congr 1
  apply List.filter_congr
  intro x hx
  exact h x (List.mem_range.1 hx)
theorem cnt_inj {A B : Nat → Bool} {N M : Nat} (g : Nat → Nat) (hg : ∀ x, x < N → A x = true → g x < M ∧ B (g x) = true) (hi : ∀ x y, x < N → y < N → A x = true → A y = true → g x = g y → x = y) : cnt A N ≤ cnt B M := by
  have hnd : (((List.range N).filter A).map g).Nodup := by
    rw [List.Nodup, List.pairwise_map]
    refine ((List.pairwise_lt_range (n := N)).filter A).imp_of_mem ?_
    intro a b ha hb hab e
    rw [List.mem_filter, List.mem_range] at ha hb
    have := hi a b ha.1 hb.1 ha.2 hb.2 e
    omega
  have hsub : ((List.range N).filter A).map g ⊆ (List.range M).filter B := by
    intro x hx
    rw [List.mem_map] at hx
    obtain ⟨a, ha, rfl⟩ := hx
    rw [List.mem_filter, List.mem_range] at ha
    rw [List.mem_filter, List.mem_range]
    exact hg a ha.1 ha.2
  have := hnd.length_le_of_subset hsub
  rw [List.length_map] at this
  exact this
theorem cnt_add (P : Nat → Bool) (a : Nat) : ∀ b, cnt P (a + b) = cnt P a + cnt (fun x => P (a + x)) b
  | 0 => rfl
  | b + 1 => by rw [← Nat.add_assoc, cnt_succ, cnt_add P a b, cnt_succ, Nat.add_assoc]
theorem cnt_all (m : Nat) : cnt (fun _ => true) m = m := by
  induction m with
  | zero => rfl
  | succ m ih => rw [cnt_succ, ih]; simp
theorem cnt_no (m : Nat) : cnt (fun _ => false) m = 0 := by
  induction m with
  | zero => rfl
  | succ m ih => rw [cnt_succ, ih]; simp
theorem cnt_mul (P R : Nat → Bool) {q : Nat} (hq : 0 < q) : ∀ m, cnt (fun y => P (y % q) && R (y / q)) (q * m) = cnt P q * cnt R m
  | 0 => rfl
  | m + 1 => by
    rw [Nat.mul_succ, cnt_add, cnt_mul P R hq m, cnt_succ, Nat.mul_add]
    congr 1
    have e : cnt (fun x => P ((q * m + x) % q) && R ((q * m + x) / q)) q = cnt (fun x => P x && R m) q := cnt_congr fun x hx => by
      rw [Nat.mul_add_mod, Nat.mod_eq_of_lt hx, Nat.mul_add_div hq, Nat.div_eq_of_lt hx, Nat.add_zero]
    rw [e]
    cases R m
    · rw [if_neg (by simp), Nat.mul_zero]
      rw [cnt_congr (Q := fun _ => false) fun x _ => by simp, cnt_no]
    · rw [if_pos rfl, Nat.mul_one]
      exact cnt_congr fun x _ => by simp

/-! ### digits -/
def dgt (q : Nat) : Nat → Nat → Nat
  | y, 0 => y % q
  | y, j + 1 => dgt q (y / q) j
def enc (q : Nat) : Nat → (Nat → Nat) → Nat
  | 0, _ => 0
  | c + 1, x => x 0 + q * enc q c fun j => x (j + 1)
theorem dgt_lt {q : Nat} (hq : 0 < q) : ∀ (j y : Nat), dgt q y j < q
  | 0, _ => Nat.mod_lt _ hq
  | j + 1, y => dgt_lt hq j (y / q)
theorem dgt_enc {q : Nat} : ∀ {c : Nat} {x : Nat → Nat}, (∀ j, j < c → x j < q) → ∀ j, j < c → dgt q (enc q c x) j = x j
  | c + 1, x, hx, 0, _ => by
    show (x 0 + q * _) % q = x 0
    rw [Nat.add_mul_mod_self_left, Nat.mod_eq_of_lt (hx 0 (by omega))]
  | c + 1, x, hx, j + 1, hj => by
    show dgt q ((x 0 + q * enc q c fun j => x (j + 1)) / q) j = x (j + 1)
    have h0 := hx 0 (by omega)
    rw [Nat.add_mul_div_left _ _ (by omega), Nat.div_eq_of_lt h0, Nat.zero_add]
    exact dgt_enc (fun j hj => hx (j + 1) (by omega)) j (by omega)
theorem enc_lt {q : Nat} : ∀ {c : Nat} {x : Nat → Nat}, (∀ j, j < c → x j < q) → enc q c x < q ^ c
  | 0, _, _ => Nat.one_pos
  | c + 1, x, hx => by
    have h0 := hx 0 (by omega)
    have h1 := enc_lt (c := c) (x := fun j => x (j + 1)) fun j hj => hx (j + 1) (by omega)
    show x 0 + q * enc q c _ < q ^ (c + 1)
    have h2 : q * (enc q c (fun j => x (j + 1)) + 1) ≤ q * q ^ c := Nat.mul_le_mul_left q h1
    rw [Nat.mul_succ] at h2
    rw [Nat.pow_succ, Nat.mul_comm (q ^ c)]
    omega
theorem enc_dgt {q : Nat} (hq : 0 < q) : ∀ {c y : Nat}, y < q ^ c → enc q c (dgt q y) = y
  | 0, y, h => by rw [Nat.pow_zero] at h; show 0 = y; omega
  | c + 1, y, h => by
    show y % q + q * enc q c (dgt q (y / q)) = y
    rw [enc_dgt hq (c := c) (by rw [Nat.pow_succ, Nat.mul_comm] at h; exact Nat.div_lt_of_lt_mul h)]
    exact Nat.mod_add_div y q
theorem enc_congr {q : Nat} : ∀ {c : Nat} {x y : Nat → Nat}, (∀ j, j < c → x j = y j) → enc q c x = enc q c y
  | 0, _, _, _ => rfl
  | c + 1, x, y, h => by show x 0 + q * enc q c _ = y 0 + q * enc q c _; rw [h 0 (by omega), enc_congr fun j hj => h (j + 1) (by omega)]
def pN : Nat → (Nat → Nat) → Nat
  | 0, _ => 1
  | n + 1, f => pN n f * f n
theorem pN_congr : ∀ {n : Nat} {f g : Nat → Nat}, (∀ k, k < n → f k = g k) → pN n f = pN n g
  | 0, _, _, _ => rfl
  | n + 1, f, g, h => by show pN n f * f n = pN n g * g n; rw [pN_congr fun k hk => h k (by omega), h n (by omega)]
theorem pN_succ' : ∀ (n : Nat) (f : Nat → Nat), pN (n + 1) f = f 0 * pN n (fun k => f (k + 1))
  | 0, f => by show 1 * f 0 = f 0 * 1; rw [Nat.one_mul, Nat.mul_one]
  | n + 1, f => by show pN (n + 1) f * f (n + 1) = f 0 * (pN n (fun k => f (k + 1)) * f (n + 1)); rw [pN_succ' n f, Nat.mul_assoc]
theorem cnt_digits {q : Nat} (hq : 0 < q) : ∀ (c : Nat) (P : Nat → Nat → Bool), cnt (fun y => decide (∀ j, j < c → P j (dgt q y j) = true)) (q ^ c) = pN c fun j => cnt (P j) q
  | 0, P => by
    rw [Nat.pow_zero, cnt_congr (Q := fun _ => true) fun x _ => decide_eq_true fun j hj => absurd hj (Nat.not_lt_zero j), cnt_all]
    rfl
  | c + 1, P => by
    rw [pN_succ', Nat.pow_succ, Nat.mul_comm (q ^ c), ← cnt_digits hq c fun j => P (j + 1), ← cnt_mul _ _ hq]
    refine cnt_congr fun y _ => ?_
    rw [Bool.eq_iff_iff, decide_eq_true_eq, Bool.and_eq_true, decide_eq_true_eq]
    constructor
    · intro h
      exact ⟨h 0 (by omega), fun j hj => h (j + 1) (by omega)⟩
    · rintro ⟨h0, h1⟩ j hj
      rcases j with _ | j
      · exact h0
      · exact h1 j (by omega)

/-! ### solutions -/
def Kz (n c : Nat) (A : Mx) (q : Nat) (x : Nat → Nat) : Prop := ∀ i, i < n → (q : Int) ∣ sI c fun j => A i j * (x j : Int)
instance (n c : Nat) (A : Mx) (q : Nat) (x : Nat → Nat) : Decidable (Kz n c A q x) := by unfold Kz; infer_instance
def kerN (n c : Nat) (A : Mx) (q : Nat) : Nat := cnt (fun y => decide (Kz n c A q (dgt q y))) (q ^ c)
theorem Kz.congr {n c : Nat} {A : Mx} {q : Nat} {x y : Nat → Nat} (h : Kz n c A q x) (hxy : ∀ j, j < c → x j = y j) : Kz n c A q y := fun i hi => by
  rw [sI_congr (g := fun j => A i j * (x j : Int)) fun j hj => by rw [hxy j hj]]
  exact h i hi
theorem ker_le {n c n' : Nat} {A B : Mx} {q : Nat} (hq : 0 < q) (T : (Nat → Nat) → Nat → Nat) (hT : ∀ x, (∀ j, j < c → x j < q) → ∀ j, j < c → T x j < q)
    (hi : ∀ x y, (∀ j, j < c → x j < q) → (∀ j, j < c → y j < q) → (∀ j, j < c → T x j = T y j) → ∀ j, j < c → x j = y j)
    (hp : ∀ x, (∀ j, j < c → x j < q) → Kz n' c B q x → Kz n c A q (T x)) : kerN n' c B q ≤ kerN n c A q := by
  have hd : ∀ y j, j < c → dgt q y j < q := fun y j _ => dgt_lt hq j y
  refine cnt_inj (fun y => enc q c (T (dgt q y))) (fun y hy hB => ⟨enc_lt (hT _ (hd y)), ?_⟩) (fun y z hy hz _ _ e => ?_)
  · rw [decide_eq_true_eq] at hB ⊢
    exact (hp _ (hd y) hB).congr fun j hj => (dgt_enc (hT _ (hd y)) j hj).symm
  · rw [← enc_dgt hq hy, ← enc_dgt hq hz]
    refine enc_congr (hi _ _ (hd y) (hd z) fun j hj => ?_)
    rw [← dgt_enc (hT _ (hd y)) j hj, ← dgt_enc (hT _ (hd z)) j hj]
    show dgt q (enc q c (T (dgt q y))) j = dgt q (enc q c (T (dgt q z))) j
    rw [show enc q c (T (dgt q y)) = enc q c (T (dgt q z)) from e]
theorem ker_eq_of {n c n' : Nat} {A B : Mx} {q : Nat} (h : ∀ x, (∀ j, j < c → x j < q) → (Kz n' c B q x ↔ Kz n c A q x)) (hq : 0 < q) : kerN n' c B q = kerN n c A q := by
  unfold kerN
  refine cnt_congr fun y _ => ?_
  rw [Bool.eq_iff_iff, decide_eq_true_eq, decide_eq_true_eq]
  exact h _ fun j _ => dgt_lt hq j y
theorem ker_eqv_le {n c : Nat} {A B : Mx} {q : Nat} (hq : 0 < q) (h : Eqv n c A B) : kerN n c B q ≤ kerN n c A q := by
  have hq0 : (q : Int) ≠ 0 := by omega
  induction h with
  | refl => exact Nat.le_refl _
  | @cong B C _ hc ih =>
    refine Nat.le_trans (Nat.le_of_eq (ker_eq_of (fun x _ => ?_) hq)) ih
    constructor
    · intro h i hi
      have := h i hi
      rwa [sI_congr (g := fun j => B i j * (x j : Int)) fun j hj => by rw [hc i j hi hj]] at this
    · intro h i hi
      rw [sI_congr (g := fun j => B i j * (x j : Int)) fun j hj => by rw [hc i j hi hj]]
      exact h i hi
  | @radd B r s t h1 h2 h3 _ ih =>
    refine Nat.le_trans (Nat.le_of_eq (ker_eq_of (fun x _ => ?_) hq)) ih
    have e : ∀ i, (sI c fun j => (if i = r then B i j + t * B s j else B i j) * (x j : Int)) = if i = r then (sI c fun j => B i j * (x j : Int)) + t * (sI c fun j => B s j * (x j : Int)) else sI c fun j => B i j * (x j : Int) := by
      intro i
      by_cases h : i = r
      · rw [if_pos h, ← sI_mul, ← sI_add]
        exact sI_congr fun j _ => by rw [if_pos h, Int.add_mul, Int.mul_assoc]
      · rw [if_neg h]
        exact sI_congr fun j _ => by rw [if_neg h]
    constructor
    · intro h i hi
      have hi' := h i hi
      rw [e] at hi'
      by_cases hir : i = r
      · rw [if_pos hir] at hi'
        have hs := h s h2
        rw [e, if_neg (Ne.symm h3)] at hs
        exact (Int.dvd_add_left (Int.dvd_mul_of_dvd_right hs)).1 hi'
      · rwa [if_neg hir] at hi'
    · intro h i hi
      rw [e]
      split
      · exact Int.dvd_add (h i hi) (Int.dvd_mul_of_dvd_right (h s h2))
      · exact h i hi
  | @cadd B r s t h1 h2 h3 _ ih =>
    refine Nat.le_trans (ker_le hq (fun x j => if j = s then (((x s : Int) + t * (x r : Int)) % (q : Int)).toNat else x j) (fun x hx j hj => ?_) (fun x y hx hy hxy j hj => ?_) (fun x hx hk i hi => ?_)) ih
    · show (if j = s then (((x s : Int) + t * (x r : Int)) % (q : Int)).toNat else x j) < q
      split
      · have a1 := Int.emod_nonneg ((x s : Int) + t * (x r : Int)) hq0
        have a2 := Int.emod_lt_of_pos ((x s : Int) + t * (x r : Int)) (show (0 : Int) < q by omega)
        omega
      · exact hx j hj
    · have hr := hxy r h1
      rw [if_neg h3, if_neg h3] at hr
      by_cases e : j = s
      · subst e
        have hj' := hxy j h2
        rw [if_pos rfl, if_pos rfl, hr] at hj'
        have a1 := Int.emod_nonneg ((x j : Int) + t * (y r : Int)) hq0
        have a2 := Int.emod_nonneg ((y j : Int) + t * (y r : Int)) hq0
        have hd := (Int.emod_eq_emod_iff_emod_sub_eq_zero.1 (show ((x j : Int) + t * (y r : Int)) % (q : Int) = ((y j : Int) + t * (y r : Int)) % (q : Int) by omega))
        rw [show (x j : Int) + t * (y r : Int) - ((y j : Int) + t * (y r : Int)) = (x j : Int) - (y j : Int) by omega] at hd
        have hxj := hx j h2
        have hyj := hy j h2
        have hdv := Int.dvd_of_emod_eq_zero hd
        obtain ⟨z, hz⟩ := hdv
        have z0 : z = 0 := by
          apply Classical.byContradiction
          intro hz0
          rcases Int.lt_or_gt_of_ne hz0 with hlt | hgt
          · have : (q : Int) * z ≤ (q : Int) * (-1) := Int.mul_le_mul_of_nonneg_left (by omega) (by omega)
            omega
          · have : (q : Int) * 1 ≤ (q : Int) * z := Int.mul_le_mul_of_nonneg_left (by omega) (by omega)
            omega
        rw [z0] at hz
        omega
      · have := hxy j hj
        rwa [if_neg e, if_neg e] at this
    · have hk' := hk i hi
      have e1 : (sI c fun j => (if j = r then B i j + t * B i s else B i j) * (x j : Int)) = (sI c fun j => B i j * (x j : Int)) + t * B i s * (x r : Int) := by
        have : (sI c fun j => (if j = r then B i j + t * B i s else B i j) * (x j : Int)) = (sI c fun j => B i j * (x j : Int) + if j = r then t * B i s * (x r : Int) else 0) := sI_congr fun j _ => by
          by_cases h : j = r
          · subst h; rw [if_pos rfl, if_pos rfl, Int.add_mul]
          · rw [if_neg h, if_neg h, Int.add_zero]
        rw [this, sI_add, sI_one (k := r) _ h1 fun j _ hne => if_neg hne, if_pos rfl]
      have e2 : (sI c fun j => B i j * ((if j = s then (((x s : Int) + t * (x r : Int)) % (q : Int)).toNat else x j : Nat) : Int)) = (sI c fun j => B i j * (x j : Int)) + (B i s * (((x s : Int) + t * (x r : Int)) % (q : Int)) - B i s * (x s : Int)) := by
        have : (sI c fun j => B i j * ((if j = s then (((x s : Int) + t * (x r : Int)) % (q : Int)).toNat else x j : Nat) : Int)) = (sI c fun j => B i j * (x j : Int) + if j = s then B i s * (((x s : Int) + t * (x r : Int)) % (q : Int)) - B i s * (x s : Int) else 0) := sI_congr fun j _ => by
          by_cases h : j = s
          · subst h
            have a1 := Int.emod_nonneg ((x j : Int) + t * (x r : Int)) hq0
            rw [if_pos rfl, if_pos rfl, Int.toNat_of_nonneg a1]; omega
          · rw [if_neg h, if_neg h, Int.add_zero]
        rw [this, sI_add, sI_one (k := s) _ h2 fun j _ hne => if_neg hne, if_pos rfl]
      rw [e1] at hk'
      rw [e2, Int.emod_def, Int.mul_sub, Int.mul_add]
      have : (sI c fun j => B i j * (x j : Int)) + (B i s * (x s : Int) + B i s * (t * (x r : Int)) - B i s * ((q : Int) * (((x s : Int) + t * (x r : Int)) / (q : Int))) - B i s * (x s : Int)) = ((sI c fun j => B i j * (x j : Int)) + t * B i s * (x r : Int)) - (q : Int) * (B i s * (((x s : Int) + t * (x r : Int)) / (q : Int))) := by
        rw [show B i s * (t * (x r : Int)) = t * B i s * (x r : Int) by rw [← Int.mul_assoc, Int.mul_comm (B i s)], ← Int.mul_assoc (B i s) (q : Int), Int.mul_comm (B i s) (q : Int), Int.mul_assoc (q : Int)]
        omega
      rw [this]
      exact Int.dvd_sub hk' (Int.dvd_mul_right ..)
  | rsw r s h1 h2 h3 _ ih =>
    refine Nat.le_trans (Nat.le_of_eq (ker_eq_of (fun x _ => ?_) hq)) ih
    constructor
    · intro h i hi
      have := h (swn r s i) (swn_lt h1 h2 hi)
      dsimp only at this
      rwa [swn_swn] at this
    · intro h i hi
      exact h _ (swn_lt h1 h2 hi)
  | @csw B r s h1 h2 h3 _ ih =>
    refine Nat.le_trans (ker_le hq (fun x j => x (swn r s j)) (fun x hx j hj => hx _ (swn_lt h1 h2 hj)) (fun x y hx hy hxy j hj => ?_) (fun x hx hk i hi => ?_)) ih
    · have := hxy (swn r s j) (swn_lt h1 h2 hj)
      rwa [swn_swn] at this
    · have := hk i hi
      have key : ∀ f : Nat → Int, sI c f = sI c fun j => f (swn r s j) := by
        intro f
        have : (sI c fun j => f (swn r s j)) = sI c fun j => f j + ((if j = r then f s - f r else 0) + if j = s then f r - f s else 0) := sI_congr fun j _ => by
          by_cases e1 : j = r
          · subst e1; rw [swn_l, if_pos rfl, if_neg h3]; omega
          · by_cases e2 : j = s
            · subst e2; rw [swn_r, if_neg e1, if_pos rfl]; omega
            · rw [swn_o e1 e2, if_neg e1, if_neg e2]; omega
        rw [this, sI_add, sI_add, sI_one (k := r) _ h1 fun j _ hne => if_neg hne, sI_one (k := s) _ h2 fun j _ hne => if_neg hne, if_pos rfl, if_pos rfl]
        omega
      rw [key] at this
      rwa [sI_congr (g := fun j => B i j * (x (swn r s j) : Int)) fun j _ => by dsimp only; rw [swn_swn]] at this
  | @rneg B r h1 _ ih =>
    refine Nat.le_trans (Nat.le_of_eq (ker_eq_of (fun x _ => ?_) hq)) ih
    have e : ∀ i, (sI c fun j => (if i = r then -B i j else B i j) * (x j : Int)) = if i = r then -(sI c fun j => B i j * (x j : Int)) else sI c fun j => B i j * (x j : Int) := by
      intro i
      by_cases h : i = r
      · rw [if_pos h, ← sI_neg]
        exact sI_congr fun j _ => by rw [if_pos h, Int.neg_mul]
      · rw [if_neg h]
        exact sI_congr fun j _ => by rw [if_neg h]
    constructor
    · intro h i hi
      have := h i hi
      rw [e] at this
      split at this
      · exact Int.dvd_neg.1 this
      · exact this
    · intro h i hi
      rw [e]
      split
      · exact Int.dvd_neg.2 (h i hi)
      · exact h i hi
  | @cneg B r h1 _ ih =>
    refine Nat.le_trans (ker_le hq (fun x j => if j = r then ((-(x r : Int)) % (q : Int)).toNat else x j) (fun x hx j hj => ?_) (fun x y hx hy hxy j hj => ?_) (fun x hx hk i hi => ?_)) ih
    · show (if j = r then ((-(x r : Int)) % (q : Int)).toNat else x j) < q
      split
      · have a1 := Int.emod_nonneg (-(x r : Int)) hq0
        have a2 := Int.emod_lt_of_pos (-(x r : Int)) (show (0 : Int) < q by omega)
        omega
      · exact hx j hj
    · by_cases e : j = r
      · subst e
        have hj' := hxy j hj
        rw [if_pos rfl, if_pos rfl] at hj'
        have hxj := hx j hj
        have hyj := hy j hj
        have f : ∀ u : Nat, u < q → (-(u : Int)) % (q : Int) = if u = 0 then 0 else (q : Int) - u := by
          intro u hu
          split
          · rename_i h; subst h; rfl
          · rw [← Int.add_mul_emod_self_left (-(u : Int)) (q : Int) 1, Int.mul_one, Int.emod_eq_of_lt (by omega) (by omega)]; omega
        rw [f _ hxj, f _ hyj] at hj'
        split at hj' <;> split at hj' <;> omega
      · have := hxy j hj
        rwa [if_neg e, if_neg e] at this
    · have hk' := hk i hi
      have e1 : (sI c fun j => (if j = r then -B i j else B i j) * (x j : Int)) = (sI c fun j => B i j * (x j : Int)) + (-(B i r * (x r : Int)) - B i r * (x r : Int)) := by
        have : (sI c fun j => (if j = r then -B i j else B i j) * (x j : Int)) = (sI c fun j => B i j * (x j : Int) + if j = r then -(B i r * (x r : Int)) - B i r * (x r : Int) else 0) := sI_congr fun j _ => by
          by_cases h : j = r
          · subst h; rw [if_pos rfl, if_pos rfl, Int.neg_mul]; omega
          · rw [if_neg h, if_neg h, Int.add_zero]
        rw [this, sI_add, sI_one (k := r) _ h1 fun j _ hne => if_neg hne, if_pos rfl]
      have e2 : (sI c fun j => B i j * ((if j = r then ((-(x r : Int)) % (q : Int)).toNat else x j : Nat) : Int)) = (sI c fun j => B i j * (x j : Int)) + (B i r * ((-(x r : Int)) % (q : Int)) - B i r * (x r : Int)) := by
        have : (sI c fun j => B i j * ((if j = r then ((-(x r : Int)) % (q : Int)).toNat else x j : Nat) : Int)) = (sI c fun j => B i j * (x j : Int) + if j = r then B i r * ((-(x r : Int)) % (q : Int)) - B i r * (x r : Int) else 0) := sI_congr fun j _ => by
          by_cases h : j = r
          · subst h
            have a1 := Int.emod_nonneg (-(x j : Int)) hq0
            rw [if_pos rfl, if_pos rfl, Int.toNat_of_nonneg a1]; omega
          · rw [if_neg h, if_neg h, Int.add_zero]
        rw [this, sI_add, sI_one (k := r) _ h1 fun j _ hne => if_neg hne, if_pos rfl]
      rw [e1] at hk'
      rw [e2, Int.emod_def, Int.mul_sub, ← Int.mul_assoc (B i r) (q : Int), Int.mul_comm (B i r) (q : Int), Int.mul_assoc (q : Int), Int.mul_neg]
      have : (sI c fun j => B i j * (x j : Int)) + (-(B i r * (x r : Int)) - (q : Int) * (B i r * (-(x r : Int) / (q : Int))) - B i r * (x r : Int)) = ((sI c fun j => B i j * (x j : Int)) + (-(B i r * (x r : Int)) - B i r * (x r : Int))) - (q : Int) * (B i r * (-(x r : Int) / (q : Int))) := by omega
      rw [this]
      exact Int.dvd_sub hk' (Int.dvd_mul_right ..)
/-- equivalent matrices have equally many solutions -/
theorem ker_eqv {n c : Nat} {A B : Mx} {q : Nat} (hq : 0 < q) (h : Eqv n c A B) : kerN n c B q = kerN n c A q := Nat.le_antisymm (ker_eqv_le hq h) (ker_eqv_le hq h.symm)
/-- so have those that are alike modulo the number -/
theorem ker_mod {n c : Nat} {A B : Mx} {q : Nat} (hq : 0 < q) (h : ∀ i j, i < n → j < c → (q : Int) ∣ A i j - B i j) : kerN n c B q = kerN n c A q := by
  refine ker_eq_of (fun x _ => ?_) hq
  have e : ∀ i, i < n → (q : Int) ∣ (sI c fun j => A i j * (x j : Int)) - sI c fun j => B i j * (x j : Int) := by
    intro i hi
    have : (sI c fun j => A i j * (x j : Int)) - (sI c fun j => B i j * (x j : Int)) = sI c fun j => (A i j - B i j) * (x j : Int) := by
      have := sI_add c (fun j => (A i j - B i j) * (x j : Int)) (fun j => B i j * (x j : Int))
      rw [sI_congr (g := fun j => A i j * (x j : Int)) fun j _ => by rw [← Int.add_mul]; congr 1; omega] at this
      omega
    rw [this]
    exact dvd_sI fun j hj => Int.dvd_trans (h i j hi hj) (Int.dvd_mul_right ..)
  constructor
  · intro hk i hi
    have := Int.dvd_add (e i hi) (hk i hi)
    rwa [Int.sub_add_cancel] at this
  · intro hk i hi
    have := Int.dvd_sub (hk i hi) (e i hi)
    rwa [show ∀ a b : Int, a - (a - b) = b from fun a b => by omega] at this
theorem cnt_gcd {q : Nat} (hq : 0 < q) (d : Nat) : cnt (fun x => decide (q ∣ d * x)) q = Nat.gcd q d := by
  have hg : 0 < Nat.gcd q d := Nat.gcd_pos_of_pos_left d hq
  obtain ⟨g, hgd⟩ : ∃ g, Nat.gcd q d = g := ⟨_, rfl⟩
  obtain ⟨q', hq'⟩ := Nat.gcd_dvd_left q d
  obtain ⟨d', hd'⟩ := Nat.gcd_dvd_right q d
  have hco : Nat.Coprime q' d' := by
    have := Nat.coprime_div_gcd_div_gcd hg (m := q) (n := d)
    have e1 : q / Nat.gcd q d = q' := by rw [← Nat.mul_div_cancel_left q' hg]; exact congrArg (· / Nat.gcd q d) hq'
    have e2 : d / Nat.gcd q d = d' := by rw [← Nat.mul_div_cancel_left d' hg]; exact congrArg (· / Nat.gcd q d) hd'
    rwa [e1, e2] at this
  rw [hgd] at hg hq' hd' ⊢
  have hq0 : 0 < q' := by
    rcases Nat.eq_zero_or_pos q' with h | h
    · rw [h, Nat.mul_zero] at hq'; omega
    · exact h
  have e : ∀ x, decide (q ∣ d * x) = (decide (x % q' = 0) && true) := by
    intro x
    rw [Bool.and_true, Bool.eq_iff_iff, decide_eq_true_eq, decide_eq_true_eq, hq', hd', Nat.mul_assoc, Nat.mul_dvd_mul_iff_left hg]
    constructor
    · intro h
      exact Nat.mod_eq_zero_of_dvd (hco.dvd_of_dvd_mul_left h)
    · intro h
      exact Nat.dvd_trans (Nat.dvd_of_mod_eq_zero h) (Nat.dvd_mul_left ..)
  rw [cnt_congr fun x _ => e x]
  have e2 : cnt (fun x => decide (x % q' = 0) && true) q = cnt (fun x => decide (x % q' = 0) && true) (q' * g) := by rw [Nat.mul_comm q' g]; exact congrArg _ hq'
  rw [e2, cnt_mul (fun r => decide (r = 0)) (fun _ => true) hq0, cnt_all]
  obtain ⟨q'', rfl⟩ : ∃ k, q' = 1 + k := ⟨q' - 1, by omega⟩
  rw [cnt_add, cnt_succ, cnt_zero, cnt_congr (P := fun x => decide (1 + x = 0)) (Q := fun _ => false) fun x _ => decide_eq_false (by omega), cnt_no]
  simp
/-- the solutions of a diagonal system -/
theorem ker_diag {n c : Nat} {d : Nat → Nat} {q : Nat} (hq : 0 < q) : kerN n c (dgM d) q = pN c fun j => if j < n then Nat.gcd q (d j) else q := by
  have h := cnt_digits hq c fun j x => if j < n then decide (q ∣ d j * x) else true
  have e1 : kerN n c (dgM d) q = cnt (fun y => decide (∀ j, j < c → (fun j x => if j < n then decide (q ∣ d j * x) else true) j (dgt q y j) = true)) (q ^ c) := by
    unfold kerN
    refine cnt_congr fun y _ => ?_
    rw [Bool.eq_iff_iff, decide_eq_true_eq, decide_eq_true_eq]
    have es : ∀ i, i < c → (sI c fun j => dgM d i j * (dgt q y j : Int)) = ((d i * dgt q y i : Nat) : Int) := by
      intro i hi
      rw [sI_one (k := i) _ hi fun j _ hne => by unfold dgM; rw [if_neg (Ne.symm hne), Int.zero_mul]]
      unfold dgM
      rw [if_pos rfl, Int.natCast_mul]
    constructor
    · intro hk j hj
      show (if j < n then decide (q ∣ d j * dgt q y j) else true) = true
      split
      · rename_i hjn
        have := hk j hjn
        rw [es j hj] at this
        exact decide_eq_true (Int.natCast_dvd_natCast.1 this)
      · rfl
    · intro hk i hi
      by_cases hic : i < c
      · rw [es i hic]
        have := hk i hic
        dsimp only at this
        rw [if_pos hi, decide_eq_true_eq] at this
        exact Int.natCast_dvd_natCast.2 this
      · rw [sI_all0 fun j hj => by unfold dgM; rw [if_neg (by omega), Int.zero_mul]]
        exact Int.dvd_zero _
  rw [e1, h]
  refine pN_congr fun j _ => ?_
  split
  · exact cnt_gcd hq _
  · exact cnt_all q
end Go.Proofs.Yteanhbldhaiekaa
