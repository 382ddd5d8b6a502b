/-
  The coefficients of det(G + tA), its values, congruence; sums of principal minors. No program here.
  Newton's inequalities for the sums of principal minors of a symmetric matrix, and those between a matrix and its parts. No program here.
  The inequalities hold: by rotating two indices at a time. No program here.
  The rule of Descartes for the sums of principal minors of a symmetric matrix. No program here.
-/
import Derived.Test.YteanhbldhaiekaaZ27
namespace Go.Proofs.Yteanhbldhaiekaa

/-! ### integers that vanish with every value -/
theorem pz : ∀ (N : Nat) (c : Nat → Int), (∀ t : Int, t ≠ 0 → (sI N fun k => c k * t ^ k) = 0) → ∀ k, k < N → c k = 0
  | 0, _, _ => fun k hk => absurd hk (Nat.not_lt_zero k)
  | N + 1, c, h => by
    have hs : ∀ t : Int, t ≠ 0 → c 0 + t * (sI N fun k => c (k + 1) * t ^ k) = 0 := fun t ht => by
      have := h t ht
      rw [sI_succ'] at this
      rw [← sI_mul]
      rw [sI_congr (g := fun k => c (k + 1) * t ^ (k + 1)) fun k _ => by rw [Int.pow_succ, ← Int.mul_assoc, Int.mul_comm t, Int.mul_assoc, Int.mul_comm t]]
      simpa using this
    have h0 : c 0 = 0 := by
      have hd : ((c 0).natAbs + 1 : Nat) ∣ (c 0).natAbs := by
        have := hs ((c 0).natAbs + 1 : Nat) (by omega)
        refine (Int.natAbs_dvd_natAbs (a := (((c 0).natAbs + 1 : Nat) : Int)) (b := c 0)).2 ⟨-(sI N fun k => c (k + 1) * (((c 0).natAbs + 1 : Nat) : Int) ^ k), ?_⟩
        rw [Int.mul_neg]
        omega
      rcases Nat.eq_zero_or_pos (c 0).natAbs with h | h
      · omega
      · have := Nat.le_of_dvd h hd; omega
    have ih := pz N (fun k => c (k + 1)) fun t ht => by
      have := hs t ht
      rw [h0, Int.zero_add] at this
      exact (Int.mul_eq_zero.1 this).resolve_left ht
    intro k hk
    cases k with
    | zero => exact h0
    | succ k => exact ih k (by omega)
theorem pz_eq {N : Nat} {c d : Nat → Int} (h : ∀ t : Int, t ≠ 0 → (sI N fun k => c k * t ^ k) = sI N fun k => d k * t ^ k) : ∀ k, k < N → c k = d k := fun k hk => by
  have := pz N (fun k => c k - d k) (fun t ht => by
    rw [sI_congr (g := fun k => c k * t ^ k - d k * t ^ k) fun k _ => Int.sub_mul _ _ _, sI_sub, h t ht, Int.sub_self]) k hk
  omega

/-! ### the coefficients -/
/-- one place on -/
def sh (f : Nat → Int) : Nat → Int
  | 0 => 0
  | k + 1 => f k
theorem sh_zero (f : Nat → Int) : sh f 0 = 0 := rfl
theorem sh_succ (f : Nat → Int) (k : Nat) : sh f (k + 1) = f k := rfl
theorem sh_val (f : Nat → Int) (N : Nat) (t : Int) : (sI (N + 1) fun k => sh f k * t ^ k) = t * sI N fun k => f k * t ^ k := by
  rw [sI_succ', sh_zero, Int.zero_mul, Int.zero_add, ← sI_mul]
  exact sI_congr fun k _ => by rw [sh_succ, Int.pow_succ, ← Int.mul_assoc, Int.mul_comm t]
/-- the coefficients of det (G + t A) -/
def cf : Nat → Mx → Mx → Nat → Int
  | 0, _, _, k => if k = 0 then 1 else 0
  | n + 1, G, A, k => sI (n + 1) fun j => sg1 j * (G 0 j * cf n (fun x y => G (x + 1) (sk j y)) (fun x y => A (x + 1) (sk j y)) k + A 0 j * sh (cf n (fun x y => G (x + 1) (sk j y)) (fun x y => A (x + 1) (sk j y))) k)
theorem cf_succ (n : Nat) (G A : Mx) (k : Nat) : cf (n + 1) G A k = sI (n + 1) fun j => sg1 j * (G 0 j * cf n (fun x y => G (x + 1) (sk j y)) (fun x y => A (x + 1) (sk j y)) k + A 0 j * sh (cf n (fun x y => G (x + 1) (sk j y)) (fun x y => A (x + 1) (sk j y))) k) := rfl
theorem cf_high : ∀ {n : Nat} {G A : Mx} {k : Nat}, n < k → cf n G A k = 0
  | 0, G, A, k, h => if_neg (by omega)
  | n + 1, G, A, k, h => by
    rw [cf_succ]
    refine sI_all0 fun j _ => ?_
    obtain ⟨l, rfl⟩ : ∃ l, k = l + 1 := ⟨k - 1, by omega⟩
    rw [sh_succ, cf_high (n := n) (k := l + 1) (by omega), cf_high (n := n) (k := l) (by omega), Int.mul_zero, Int.mul_zero, Int.add_zero, Int.mul_zero]
theorem val_more {n N : Nat} {f : Nat → Int} (h : ∀ k, n ≤ k → f k = 0) (hN : n ≤ N) (t : Int) : (sI N fun k => f k * t ^ k) = sI n fun k => f k * t ^ k := by
  obtain ⟨d, rfl⟩ : ∃ d, N = n + d := ⟨N - n, by omega⟩
  rw [sI_len, sI_all0 (n := d) fun k _ => by rw [h _ (by omega), Int.zero_mul], Int.add_zero]
theorem cf_val : ∀ (n : Nat) (G A : Mx) (t : Int) (N : Nat), n < N → (sI N fun k => cf n G A k * t ^ k) = det n fun i j => G i j + t * A i j
  | 0, G, A, t, N, h => by
    rw [val_more (n := 1) (f := cf 0 G A) (fun k hk => if_neg (by omega)) h]
    show 0 + 1 * t ^ 0 = 1
    simp
  | n + 1, G, A, t, N, h => by
    rw [val_more (n := n + 2) (fun k hk => cf_high (by omega)) h, det_succ]
    rw [sI_congr (g := fun k => sI (n + 1) fun j => sg1 j * ((G 0 j * cf n (fun x y => G (x + 1) (sk j y)) (fun x y => A (x + 1) (sk j y)) k + A 0 j * sh (cf n (fun x y => G (x + 1) (sk j y)) (fun x y => A (x + 1) (sk j y))) k) * t ^ k)) fun k _ => by
      rw [cf_succ, Int.mul_comm, ← sI_mul]
      exact sI_congr fun j _ => by rw [Int.mul_comm, Int.mul_assoc], sI_swap]
    refine sI_congr fun j _ => ?_
    rw [sI_mul, Int.mul_assoc]
    refine _root_.congrArg _ ?_
    rw [sI_congr (g := fun k => G 0 j * (cf n (fun x y => G (x + 1) (sk j y)) (fun x y => A (x + 1) (sk j y)) k * t ^ k) + A 0 j * (sh (cf n (fun x y => G (x + 1) (sk j y)) (fun x y => A (x + 1) (sk j y))) k * t ^ k)) fun k _ => by
      rw [Int.add_mul, Int.mul_assoc, Int.mul_assoc], sI_add, sI_mul, sI_mul, sh_val, cf_val n _ _ t (n + 2) (by omega), cf_val n _ _ t (n + 1) (by omega), Int.add_mul, Int.mul_comm t, Int.mul_comm t, Int.mul_assoc, Int.mul_comm t]
/-- equal values, equal coefficients -/
theorem cf_of_val {n : Nat} {G A G' A' : Mx} {d : Int} (h : ∀ t : Int, (det n fun i j => G' i j + t * A' i j) = d * det n fun i j => G i j + t * A i j) (k : Nat) : cf n G' A' k = d * cf n G A k := by
  rcases Nat.lt_or_ge n k with hk | hk
  · rw [cf_high hk, cf_high hk, Int.mul_zero]
  · refine pz_eq (N := n + 1) (c := cf n G' A') (d := fun k => d * cf n G A k) (fun t _ => ?_) k (by omega)
    rw [cf_val n _ _ t _ (by omega), h t, sI_congr (g := fun k => d * (cf n G A k * t ^ k)) fun k _ => Int.mul_assoc _ _ _, sI_mul, cf_val n _ _ t _ (by omega)]
theorem cf_of_eq {n : Nat} {G A G' A' : Mx} (h : ∀ t : Int, (det n fun i j => G' i j + t * A' i j) = det n fun i j => G i j + t * A i j) (k : Nat) : cf n G' A' k = cf n G A k := by
  rw [cf_of_val (d := 1) (G := G) (A := A) (fun t => by rw [h t, Int.one_mul]) k, Int.one_mul]
theorem cf_congr {n : Nat} {G A G' A' : Mx} (hG : ∀ i j, i < n → j < n → G' i j = G i j) (hA : ∀ i j, i < n → j < n → A' i j = A i j) (k : Nat) : cf n G' A' k = cf n G A k :=
  cf_of_eq (fun t => det_congr fun i j hi hj => by rw [hG i j hi hj, hA i j hi hj]) k
theorem cf_tr (n : Nat) (G A : Mx) (k : Nat) : cf n (fun i j => G j i) (fun i j => A j i) k = cf n G A k :=
  cf_of_eq (fun t => det_tr n fun i j => G i j + t * A i j) k
theorem cf_perm (n : Nat) (G A : Mx) {D : Nat → Nat} (h1 : ∀ l, l < n → D l < n) (h2 : ∀ x y, x < n → y < n → D x = D y → x = y) (k : Nat) : cf n (fun i j => G (D i) (D j)) (fun i j => A (D i) (D j)) k = cf n G A k :=
  cf_of_eq (fun t => det_perm (fun i j => G i j + t * A i j) n n D (Nat.le_refl _) h1 h2 fun l h3 h4 => by omega) k
/-- T^T M T -/
def cgM (n : Nat) (T M : Mx) : Mx := fun i j => sI n fun a => T a i * sI n fun b => M a b * T b j
theorem det_cgM (n : Nat) (T M : Mx) : det n (cgM n T M) = det n T * det n T * det n M := by
  have e : det n (cgM n T M) = det n (mulM n (fun i a => T a i) (mulM n M T)) := rfl
  rw [e, det_mulM, det_mulM, det_tr n T]
  grind
theorem cgM_lin (n : Nat) (T G A : Mx) (t : Int) (i j : Nat) : cgM n T (fun i j => G i j + t * A i j) i j = cgM n T G i j + t * cgM n T A i j := by
  unfold cgM
  rw [← sI_mul, ← sI_add]
  refine sI_congr fun a _ => ?_
  rw [sI_congr (g := fun b => G a b * T b j + t * (A a b * T b j)) fun b _ => by rw [Int.add_mul, Int.mul_assoc], sI_add, sI_mul, Int.mul_add]
  grind
theorem cf_cg (n : Nat) (T G A : Mx) (k : Nat) : cf n (cgM n T G) (cgM n T A) k = det n T * det n T * cf n G A k :=
  cf_of_val (fun t => by
    rw [← det_cgM]
    exact det_congr fun i j _ _ => (cgM_lin n T G A t i j).symm) k

/-! ### sums of principal minors -/
/-- the sum of g over the complement times the minor, over all sets below m and with R; k rows in all -/
def wS (g : Nat → Int) (A : Mx) : Nat → Nat → (Nat → Nat) → Nat → Int
  | 0, r, R, k => if k = r then mn A r R R else 0
  | m + 1, r, R, k => g m * wS g A m r R k + wS g A m (r + 1) (cn m R) k
theorem mn_congr {A : Mx} {r : Nat} {R R' C C' : Nat → Nat} (h : ∀ x, x < r → R x = R' x) (h' : ∀ x, x < r → C x = C' x) : mn A r R C = mn A r R' C' := det_congr fun i j hi hj => by rw [h i hi, h' j hj]
theorem cn_eq {r : Nat} {R R' : Nat → Nat} (h : ∀ x, x < r → R x = R' x) (m : Nat) : ∀ x, x < r + 1 → cn m R x = cn m R' x := fun x hx => by
  cases x with
  | zero => rfl
  | succ x => exact h x (by omega)
theorem wS_congr {g : Nat → Int} {A : Mx} : ∀ {m r : Nat} {R R' : Nat → Nat}, (∀ x, x < r → R x = R' x) → ∀ k, wS g A m r R k = wS g A m r R' k
  | 0, r, R, R', h, k => by unfold wS; rw [mn_congr h h]
  | m + 1, r, R, R', h, k => by unfold wS; rw [wS_congr (m := m) h, wS_congr (m := m) (cn_eq h m)]
def dg (g : Nat → Int) : Mx := fun i j => if i = j then g i else 0
/-- the indices below m downward, then R -/
def ixR (m : Nat) (R : Nat → Nat) (x : Nat) : Nat := if x < m then m - 1 - x else R (x - m)
/-- the diagonal of those below m -/
def dgR (g : Nat → Int) (m : Nat) : Mx := fun i j => if i = j ∧ i < m then g (m - 1 - i) else 0
/-- the coefficients are those sums -/
theorem cf_wS (g : Nat → Int) (A : Mx) : ∀ (m r : Nat) (R : Nat → Nat) (k : Nat), cf (m + r) (dgR g m) (fun i j => A (ixR m R i) (ixR m R j)) k = wS g A m r R k
  | 0, r, R, k => by
    rw [Nat.zero_add]
    unfold wS
    have e : ∀ k, cf r (dgR g 0) (fun i j => A (ixR 0 R i) (ixR 0 R j)) k = cf r (fun _ _ => 0) (fun i j => A (R i) (R j)) k := cf_congr (fun i j _ _ => if_neg (by omega)) fun i j _ _ => by unfold ixR; rw [if_neg (by omega), if_neg (by omega)]; rfl
    rw [e]
    rcases Nat.lt_or_ge r k with h | h
    · rw [cf_high h, if_neg (by omega)]
    · refine pz_eq (N := r + 1) (c := cf r (fun _ _ => 0) (fun i j => A (R i) (R j))) (d := fun k => if k = r then mn A r R R else 0) (fun t _ => ?_) k (by omega)
      rw [cf_val r _ _ t _ (by omega)]
      have h1 : ∀ (n : Nat) (M : Mx), det n (fun i j => 0 + t * M i j) = t ^ n * det n M := fun n => by
        induction n with
        | zero => intro M; simp [det]
        | succ n ih =>
          intro M
          rw [det_succ, det_succ, ← sI_mul]
          refine sI_congr fun j _ => ?_
          rw [ih, Int.pow_succ]
          grind
      rw [h1, sI_one (k := r) _ (by omega) fun j _ hj => by rw [if_neg hj, Int.zero_mul], if_pos rfl, Int.mul_comm]
      rfl
  | m + 1, r, R, k => by
    unfold wS
    rw [← cf_wS g A m r R k, ← cf_wS g A m (r + 1) (cn m R) k]
    rw [show m + 1 + r = m + r + 1 by omega, show m + (r + 1) = m + r + 1 by omega]
    -- without the first entry
    let G0 : Mx := fun i j => if i = 0 then 0 else dgR g (m + 1) i j
    let B : Mx := fun i j => A (ixR (m + 1) R i) (ixR (m + 1) R j)
    have h1 : cf (m + r + 1) (dgR g (m + 1)) B k = g m * cf (m + r) (dgR g m) (fun i j => A (ixR m R i) (ixR m R j)) k + cf (m + r + 1) G0 B k := by
      rw [cf_succ, cf_succ]
      have e : ∀ j, sg1 j * (dgR g (m + 1) 0 j * cf (m + r) (fun x y => dgR g (m + 1) (x + 1) (sk j y)) (fun x y => B (x + 1) (sk j y)) k + B 0 j * sh (cf (m + r) (fun x y => dgR g (m + 1) (x + 1) (sk j y)) (fun x y => B (x + 1) (sk j y))) k) =
          sg1 j * (dgR g (m + 1) 0 j * cf (m + r) (fun x y => dgR g (m + 1) (x + 1) (sk j y)) (fun x y => B (x + 1) (sk j y)) k) + sg1 j * (G0 0 j * cf (m + r) (fun x y => G0 (x + 1) (sk j y)) (fun x y => B (x + 1) (sk j y)) k + B 0 j * sh (cf (m + r) (fun x y => G0 (x + 1) (sk j y)) (fun x y => B (x + 1) (sk j y))) k) := fun j => by
        have e0 : G0 0 j = 0 := if_pos rfl
        have e1 : (fun x y => G0 (x + 1) (sk j y)) = fun x y => dgR g (m + 1) (x + 1) (sk j y) := by funext x y; exact if_neg (by omega)
        rw [e0, e1, Int.zero_mul, Int.zero_add, Int.mul_add]
      rw [sI_congr fun j _ => e j, sI_add, sI_one (k := 0) _ (by omega) fun j _ hj => by rw [show dgR g (m + 1) 0 j = 0 from if_neg fun h => hj h.1.symm, Int.zero_mul, Int.mul_zero]]
      congr 1
      rw [show dgR g (m + 1) 0 0 = g m by unfold dgR; rw [if_pos ⟨rfl, by omega⟩]; congr 1, show sg1 0 = 1 from rfl, Int.one_mul]
      congr 1
      refine cf_congr (fun i j _ _ => ?_) (fun i j _ _ => ?_) k
      · rw [sk_zero]
        unfold dgR
        by_cases h : i = j ∧ i < m
        · rw [if_pos h, if_pos ⟨by omega, by omega⟩]; congr 1; omega
        · rw [if_neg h, if_neg (by omega)]
      · rw [sk_zero]
        show A (ixR (m + 1) R (i + 1)) (ixR (m + 1) R (j + 1)) = _
        have : ∀ x, ixR (m + 1) R (x + 1) = ixR m R x := fun x => by
          unfold ixR
          by_cases h : x < m
          · rw [if_pos h, if_pos (by omega)]; omega
          · rw [if_neg h, if_neg (by omega)]; congr 1; omega
        rw [this, this]
    rw [h1]
    congr 1
    -- the first entry moved behind
    let D : Nat → Nat := fun x => if x < m then x + 1 else if x = m then 0 else x
    rw [← cf_perm (m + r + 1) G0 B (D := D) (fun l hl => by
      show (if l < m then l + 1 else if l = m then 0 else l) < _
      split
      · omega
      · split <;> omega) (fun x y hx hy h => by
      have h : (if x < m then x + 1 else if x = m then 0 else x) = if y < m then y + 1 else if y = m then 0 else y := h
      split at h <;> split at h <;> (try split at h) <;> (try split at h) <;> omega) k]
    refine (cf_congr (fun i j _ _ => ?_) (fun i j _ _ => ?_) k).symm
    · show dgR g m i j = if D i = 0 then 0 else dgR g (m + 1) (D i) (D j)
      have : ∀ x, D x = if x < m then x + 1 else if x = m then 0 else x := fun _ => rfl
      rw [this, this]
      unfold dgR
      by_cases h : i = j ∧ i < m
      · obtain ⟨rfl, h⟩ := h
        rw [if_pos ⟨rfl, h⟩, if_pos h, if_neg (by omega), if_pos ⟨rfl, by omega⟩]
        congr 1
        omega
      · rw [if_neg h]
        symm
        by_cases h0 : (if i < m then i + 1 else if i = m then 0 else i) = 0
        · rw [if_pos h0]
        · rw [if_neg h0, if_neg]
          rintro ⟨h1, h2⟩
          revert h0 h1 h2
          by_cases a1 : i < m
          · rw [if_pos a1]
            by_cases a2 : j < m
            · rw [if_pos a2]; omega
            · rw [if_neg a2]; split <;> omega
          · rw [if_neg a1]
            by_cases a3 : i = m
            · rw [if_pos a3]; omega
            · rw [if_neg a3]; omega
    · show A _ _ = A _ _
      have : ∀ x, ixR (m + 1) R (D x) = ixR m (cn m R) x := fun x => by
        show ixR (m + 1) R (if x < m then x + 1 else if x = m then 0 else x) = _
        unfold ixR
        by_cases h : x < m
        · rw [if_pos h, if_pos (by omega), if_pos h]; omega
        · rw [if_neg h, if_neg h]
          by_cases e : x = m
          · subst e
            rw [if_pos rfl, if_pos (by omega), Nat.sub_self]; rfl
          · rw [if_neg e, if_neg (by omega)]
            obtain ⟨y, hy⟩ : ∃ y, x - m = y + 1 := ⟨x - m - 1, by omega⟩
            rw [hy, cn_succ]
            congr 1
            omega
      rw [this, this]
end Go.Proofs.Yteanhbldhaiekaa
namespace Go.Proofs.Yteanhbldhaiekaa

/-! ### the parts without one index -/
/-- the sums over sets without i -/
def wX (g : Nat → Int) (A : Mx) : Nat → Nat → Nat → (Nat → Nat) → Nat → Int
  | 0, _, _, _, _ => 0
  | m + 1, i, r, R, k => if i = m then g m * wS g A m r R k else g m * wX g A m i r R k + wX g A m i (r + 1) (cn m R) k
theorem wX_sum (g : Nat → Int) (A : Mx) : ∀ (m r : Nat) (R : Nat → Nat) (k : Nat), (sI m fun i => wX g A m i r R k) = ((m : Int) + r - k) * wS g A m r R k
  | 0, r, R, k => by
    show 0 = _
    unfold wS
    by_cases e : k = r
    · subst e; rw [show ((0 : Nat) : Int) + k - k = 0 by omega, Int.zero_mul]
    · rw [if_neg e, Int.mul_zero]
  | m + 1, r, R, k => by
    show (sI m fun i => wX g A (m + 1) i r R k) + wX g A (m + 1) m r R k = _
    have e1 : wX g A (m + 1) m r R k = g m * wS g A m r R k := by rw [wX, if_pos rfl]
    have e2 : (sI m fun i => wX g A (m + 1) i r R k) = g m * (sI m fun i => wX g A m i r R k) + sI m fun i => wX g A m i (r + 1) (cn m R) k := by
      rw [← sI_mul, ← sI_add]
      exact sI_congr fun i hi => by rw [wX, if_neg (by omega)]
    rw [e1, e2, wX_sum g A m r R k, wX_sum g A m (r + 1) (cn m R) k]
    have e3 : wS g A (m + 1) r R k = g m * wS g A m r R k + wS g A m (r + 1) (cn m R) k := rfl
    rw [e3]
    generalize wS g A m r R k = x
    generalize wS g A m (r + 1) (cn m R) k = y
    push_cast
    grind
theorem wS_sk {g : Nat → Int} {A : Mx} {i : Nat} : ∀ {m r : Nat} {R R' : Nat → Nat}, m ≤ i → (∀ x, x < r → R x = sk i (R' x)) → ∀ k, wS g A m r R k = wS (fun x => g (sk i x)) (fun x y => A (sk i x) (sk i y)) m r R' k
  | 0, r, R, R', _, h, k => by
    unfold wS
    rw [show mn (fun x y => A (sk i x) (sk i y)) r R' R' = mn A r (fun x => sk i (R' x)) (fun x => sk i (R' x)) from rfl, mn_congr h h]
  | m + 1, r, R, R', hm, h, k => by
    have e : sk i m = m := by unfold sk; rw [if_pos (by omega)]
    unfold wS
    rw [wS_sk (i := i) (m := m) (by omega) h, wS_sk (i := i) (m := m) (R := cn m R) (R' := cn m R') (by omega) fun x hx => by
      cases x with
      | zero => exact e.symm
      | succ x => exact h x (by omega)]
    show g m * _ + _ = g (sk i m) * _ + _
    rw [e]
theorem wX_sk {g : Nat → Int} {A : Mx} {i : Nat} : ∀ {m r : Nat} {R R' : Nat → Nat}, i < m + 1 → (∀ x, x < r → R x = sk i (R' x)) → ∀ k, wX g A (m + 1) i r R k = g i * wS (fun x => g (sk i x)) (fun x y => A (sk i x) (sk i y)) m r R' k
  | 0, r, R, R', hi, h, k => by
    obtain rfl : i = 0 := by omega
    rw [wX, if_pos rfl, wS_sk (Nat.le_refl _) h]
  | m + 1, r, R, R', hi, h, k => by
    by_cases e : i = m + 1
    · subst e
      rw [wX, if_pos rfl, wS_sk (Nat.le_refl _) h]
    · have e1 : sk i m = m + 1 := by unfold sk; rw [if_neg (by omega)]
      rw [wX, if_neg e, wX_sk (i := i) (m := m) (by omega) h, wX_sk (i := i) (m := m) (R := cn (m + 1) R) (R' := cn m R') (by omega) fun x hx => by
        cases x with
        | zero => exact e1.symm
        | succ x => exact h x (by omega)]
      show g (m + 1) * _ + _ = g i * (g (sk i m) * _ + _)
      rw [e1, Int.mul_add, ← Int.mul_assoc, ← Int.mul_assoc, Int.mul_comm (g (m + 1))]

/-! ### a matrix and a diagonal one -/
/-- the coefficients for the diagonal g -/
def eD (n : Nat) (g : Nat → Int) (A : Mx) : Nat → Int := cf n (dg g) A
theorem eD_wS (n : Nat) (g : Nat → Int) (A : Mx) (R : Nat → Nat) (k : Nat) : eD n g A k = wS g A n 0 R k := by
  rw [← cf_wS g A n 0 R k]
  unfold eD
  rw [← cf_perm n (dg g) A (D := fun x => n - 1 - x) (fun l hl => by omega) (fun x y hx hy h => by omega) k, Nat.add_zero]
  refine cf_congr (fun i j hi hj => ?_) (fun i j hi hj => ?_) k
  · unfold dg dgR
    by_cases e : i = j
    · subst e; rw [if_pos rfl, if_pos ⟨rfl, hi⟩]
    · rw [if_neg (by omega), if_neg fun h => e h.1]
  · unfold ixR
    rw [if_pos hi, if_pos hj]
theorem dg_congr {n : Nat} {g g' : Nat → Int} (hg : ∀ i, i < n → g i = g' i) {i : Nat} (hi : i < n) (j : Nat) : dg g i j = dg g' i j := by
  unfold dg
  by_cases e : i = j
  · rw [if_pos e, if_pos e, hg i hi]
  · rw [if_neg e, if_neg e]
theorem eD_congr {n : Nat} {g g' : Nat → Int} {A A' : Mx} (hg : ∀ i, i < n → g i = g' i) (hA : ∀ i j, i < n → j < n → A i j = A' i j) (k : Nat) : eD n g A k = eD n g' A' k :=
  cf_congr (fun _ j hi _ => dg_congr hg hi j) hA k
theorem eD_high {n : Nat} {g : Nat → Int} {A : Mx} {k : Nat} (h : n < k) : eD n g A k = 0 := cf_high h
/-- the sum over the parts -/
theorem eD_avg (n : Nat) (g : Nat → Int) (A : Mx) (k : Nat) : (sI (n + 1) fun i => g i * eD n (fun x => g (sk i x)) (fun x y => A (sk i x) (sk i y)) k) = ((n : Int) + 1 - k) * eD (n + 1) g A k := by
  have h := wX_sum g A (n + 1) 0 (fun x => x) k
  rw [← eD_wS] at h
  rw [show ((n + 1 : Nat) : Int) + (0 : Nat) - k = (n : Int) + 1 - k by omega] at h
  rw [← h]
  refine sI_congr fun i hi => ?_
  rw [wX_sk (R' := fun x => x) hi (fun x hx => absurd hx (Nat.not_lt_zero x)), ← eD_wS]
/-- the indices in another order -/
theorem eD_perm (n : Nat) (g : Nat → Int) (A : Mx) {D : Nat → Nat} (h1 : ∀ l, l < n → D l < n) (h2 : ∀ x y, x < n → y < n → D x = D y → x = y) (k : Nat) : eD n (fun x => g (D x)) (fun i j => A (D i) (D j)) k = eD n g A k := by
  unfold eD
  rw [← cf_perm n (dg g) A h1 h2 k]
  refine cf_congr (fun i j hi hj => ?_) (fun _ _ _ _ => rfl) k
  unfold dg
  by_cases e : i = j
  · rw [if_pos e, if_pos (_root_.congrArg D e)]
  · rw [if_neg e, if_neg fun h => e (h2 i j hi hj h)]
theorem eD_zero : ∀ (n : Nat) (g : Nat → Int) (A : Mx), eD n g A 0 = pI n g
  | 0, _, _ => rfl
  | n + 1, g, A => by
    show cf (n + 1) (dg g) A 0 = _
    rw [cf_succ, sI_one (k := 0) _ (by omega) fun j _ hj => by rw [show dg g 0 j = 0 from if_neg (Ne.symm hj), Int.zero_mul, sh_zero, Int.mul_zero, Int.add_zero, Int.mul_zero], sh_zero, Int.mul_zero, Int.add_zero,
      show sg1 0 = 1 from rfl, Int.one_mul, show dg g 0 0 = g 0 from if_pos rfl, pI_succ']
    refine _root_.congrArg (g 0 * ·) ?_
    rw [← eD_zero n (fun k => g (k + 1)) fun x y => A (x + 1) (y + 1)]
    refine cf_congr (fun i j _ _ => ?_) (fun i j _ _ => by rw [sk_zero]) 0
    rw [sk_zero]
    unfold dg
    by_cases e : i = j
    · rw [if_pos e, if_pos (by omega)]
    · rw [if_neg e, if_neg (by omega)]
theorem pI_pos : ∀ {n : Nat} {g : Nat → Int}, (∀ i, i < n → 0 < g i) → 0 < pI n g
  | 0, _, _ => Int.one_pos
  | n + 1, g, h => Int.mul_pos (pI_pos fun i hi => h i (by omega)) (h n (by omega))
/-- the part without the first index, and the coefficients when the first row has one entry more at most -/
theorem eD_row (n : Nat) (g : Nat → Int) (A : Mx) (hs : ∀ j, A j 0 = A 0 j) (h0 : ∀ j, 2 ≤ j → A 0 j = 0) (k : Nat) :
    eD (n + 2) g A k = g 0 * eD (n + 1) (fun x => g (x + 1)) (fun x y => A (x + 1) (y + 1)) k + A 0 0 * sh (eD (n + 1) (fun x => g (x + 1)) (fun x y => A (x + 1) (y + 1))) k
      - A 0 1 * A 0 1 * sh (sh (eD n (fun x => g (x + 2)) (fun x y => A (x + 2) (y + 2)))) k := by
  have c1 : ∀ k, cf (n + 1) (fun x y => dg g (x + 1) (sk 0 y)) (fun x y => A (x + 1) (sk 0 y)) k = eD (n + 1) (fun x => g (x + 1)) (fun x y => A (x + 1) (y + 1)) k := cf_congr (fun i j _ _ => by
    rw [sk_zero]
    unfold dg
    by_cases e : i = j
    · rw [if_pos e, if_pos (by omega)]
    · rw [if_neg e, if_neg (by omega)]) fun i j _ _ => by rw [sk_zero]
  have c2 : ∀ k, cf (n + 1) (fun x y => dg g (x + 1) (sk 1 y)) (fun x y => A (x + 1) (sk 1 y)) k = A 0 1 * sh (eD n (fun x => g (x + 2)) (fun x y => A (x + 2) (y + 2))) k := fun k => by
    rw [← cf_tr, cf_succ, sI_one (k := 0) _ (by omega) fun j hj hne => ?_]
    · have s0 : sk 1 0 = 0 := rfl
      have e1 : dg g (0 + 1) (sk 1 0) = 0 := if_neg (by rw [s0]; omega)
      rw [e1, Int.zero_mul, Int.zero_add, show sg1 0 = 1 from rfl, Int.one_mul, s0, hs]
      refine _root_.congrArg (A 0 1 * ·) ?_
      have e : ∀ k, cf n (fun x y => dg g (sk 0 y + 1) (sk 1 (x + 1))) (fun x y => A (sk 0 y + 1) (sk 1 (x + 1))) k = eD n (fun x => g (x + 2)) (fun x y => A (x + 2) (y + 2)) k := fun k => by
        have s1 : ∀ x, sk 1 (x + 1) = x + 2 := fun x => by unfold sk; rw [if_neg (by omega)]
        have := cf_tr n (fun x y => dg g (x + 2) (y + 2)) (fun x y => A (x + 2) (y + 2)) k
        rw [show eD n (fun x => g (x + 2)) (fun x y => A (x + 2) (y + 2)) k = cf n (fun x y => dg g (x + 2) (y + 2)) (fun x y => A (x + 2) (y + 2)) k from cf_congr (fun i j _ _ => by
          unfold dg
          by_cases e : i = j
          · rw [if_pos e, if_pos (by omega)]
          · rw [if_neg e, if_neg (by omega)]) (fun _ _ _ _ => rfl) k, ← this]
        exact cf_congr (fun i j _ _ => by rw [sk_zero, s1]) (fun i j _ _ => by rw [sk_zero, s1]) k
      cases k with
      | zero => rfl
      | succ k => exact e k
    · have e1 : dg g (j + 1) (sk 1 0) = 0 := if_neg (by rw [show sk 1 0 = 0 from rfl]; omega)
      have e2 : A (j + 1) (sk 1 0) = 0 := by rw [show sk 1 0 = 0 from rfl, hs]; exact h0 _ (by omega)
      rw [e1, e2, Int.zero_mul, Int.zero_mul]; simp
  show cf (n + 2) (dg g) A k = _
  rw [cf_succ, sI_two (p := 0) (q := 1) _ (by omega) (by omega) (by omega) fun j _ h1 h2 => by
    rw [show dg g 0 j = 0 from if_neg (by omega), h0 j (by omega), Int.zero_mul, Int.zero_mul]; simp]
  rw [show dg g 0 0 = g 0 from if_pos rfl, show dg g 0 1 = 0 from if_neg (by omega), show sg1 0 = 1 from rfl, show sg1 1 = -1 from rfl, c1, Int.zero_mul, Int.zero_add, Int.one_mul]
  have d1 : sh (cf (n + 1) (fun x y => dg g (x + 1) (sk 0 y)) (fun x y => A (x + 1) (sk 0 y))) k = sh (eD (n + 1) (fun x => g (x + 1)) (fun x y => A (x + 1) (y + 1))) k := by
    cases k with
    | zero => rfl
    | succ k => exact c1 k
  have d2 : sh (cf (n + 1) (fun x y => dg g (x + 1) (sk 1 y)) (fun x y => A (x + 1) (sk 1 y))) k = A 0 1 * sh (sh (eD n (fun x => g (x + 2)) (fun x y => A (x + 2) (y + 2)))) k := by
    cases k with
    | zero => exact (Int.mul_zero _).symm
    | succ k => exact c2 k
  rw [d1, d2]
  grind

/-! ### the inequalities -/
/-- between E and F -/
def LKq (E F : Nat → Int) : Prop := ∀ k, 0 ≤ E k * F k - E (k + 1) * sh F k ∧ (F k ≠ 0 → 0 < E k * F k - E (k + 1) * sh F k)
/-- Newton's -/
def NKq (E : Nat → Int) : Prop := ∀ k, 0 ≤ E k * E k - E (k + 1) * sh E k ∧ (E k ≠ 0 → 0 < E k * E k - E (k + 1) * sh E k)
theorem LKq.step {E F H : Nat → Int} {g a b : Int} (hg : 0 < g) (hE : ∀ k, E k = g * F k + a * sh F k - b * b * sh (sh H) k) (hN : NKq F) (hL : LKq F H) : LKq E F := fun k => by
  have e : E k * F k - E (k + 1) * sh F k = g * (F k * F k - F (k + 1) * sh F k) + b * b * (sh H k * sh F k - sh (sh H) k * F k) := by
    rw [hE k, hE (k + 1), sh_succ, sh_succ]
    grind
  have h2 : 0 ≤ b * b * (sh H k * sh F k - sh (sh H) k * F k) := by
    refine Int.mul_nonneg (mulself b) ?_
    cases k with
    | zero => simp [sh]
    | succ k =>
      have := (hL k).1
      rw [sh_succ, sh_succ, sh_succ, Int.mul_comm (H k), Int.mul_comm (sh H k)]
      exact this
  obtain ⟨n1, n2⟩ := hN k
  rw [e]
  refine ⟨?_, fun hf => ?_⟩
  · have := Int.mul_nonneg (Int.le_of_lt hg) n1
    omega
  · have := Int.mul_pos hg (n2 hf)
    omega
theorem LKq.scale {E F E' F' : Nat → Int} {d : Int} (hd : 0 < d) (hE : ∀ k, E' k = d * E k) (hF : ∀ k, F' k = d * F k) (h : LKq E' F') : LKq E F := fun k => by
  obtain ⟨h1, h2⟩ := h k
  have hs : sh F' k = d * sh F k := by
    cases k with
    | zero => simp [sh]
    | succ k => exact hF k
  rw [hE k, hF k, hE (k + 1), hs] at h1 h2
  have e : d * E k * (d * F k) - d * E (k + 1) * (d * sh F k) = d * d * (E k * F k - E (k + 1) * sh F k) := by grind
  rw [e] at h1 h2
  have hdd : 0 < d * d := Int.mul_pos hd hd
  have key : ∀ x : Int, 0 ≤ d * d * x → 0 ≤ x := fun x hx => Classical.byContradiction fun hn => by
    have := Int.mul_pos hdd (show 0 < -x by omega)
    rw [Int.mul_neg] at this
    omega
  have key2 : ∀ x : Int, 0 < d * d * x → 0 < x := fun x hx => by
    have h1 := key x (by omega)
    rcases Int.lt_or_eq_of_le h1 with h | h
    · exact h
    · rw [← h, Int.mul_zero] at hx; omega
  refine ⟨key _ h1, fun hf => key2 _ (h2 fun h0 => hf ?_)⟩
  exact (Int.mul_eq_zero.1 h0).resolve_left (by omega)
end Go.Proofs.Yteanhbldhaiekaa
namespace Go.Proofs.Yteanhbldhaiekaa

def LAll (n : Nat) : Prop := ∀ (g : Nat → Int) (A : Mx), (∀ i, i < n + 1 → 0 < g i) → Sym (n + 1) A → LKq (eD (n + 1) g A) (eD n (fun x => g (x + 1)) (fun x y => A (x + 1) (y + 1)))
theorem LKq.congr {E F E' F' : Nat → Int} (h : LKq E' F') (hE : ∀ k, E k = E' k) (hF : ∀ k, F k = F' k) : LKq E F := by
  have e1 : E = E' := funext hE
  have e2 : F = F' := funext hF
  rw [e1, e2]; exact h
theorem Sym.sub {n m : Nat} {A : Mx} (h : Sym n A) {D : Nat → Nat} (hD : ∀ l, l < m → D l < n) : Sym m (fun i j => A (D i) (D j)) := fun i j hi hj => h _ _ (hD i hi) (hD j hj)
/-- at any index -/
theorem LAll.at_ {n : Nat} (L : LAll n) {g : Nat → Int} {A : Mx} (hg : ∀ i, i < n + 1 → 0 < g i) (hA : Sym (n + 1) A) {i : Nat} (hi : i < n + 1) : LKq (eD (n + 1) g A) (eD n (fun x => g (sk i x)) (fun x y => A (sk i x) (sk i y))) := by
  rcases Nat.eq_zero_or_pos i with h0 | h0
  · subst h0
    refine (L g A hg hA).congr (fun _ => rfl) fun k => ?_
    refine eD_congr (fun x _ => by rw [sk_zero]) (fun x y _ _ => by rw [sk_zero, sk_zero]) k
  · have hl : ∀ l, l < n + 1 → swn 0 i l < n + 1 := fun l hl => swn_lt (by omega) hi hl
    have hinj : ∀ x y, x < n + 1 → y < n + 1 → swn 0 i x = swn 0 i y → x = y := fun x y _ _ e => by rw [← swn_swn 0 i x, e, swn_swn]
    refine (L (fun x => g (swn 0 i x)) (fun x y => A (swn 0 i x) (swn 0 i y)) (fun l h => hg _ (hl l h)) (hA.sub hl)).congr (fun k => (eD_perm (n + 1) g A hl hinj k).symm) fun k => ?_
    let P : Nat → Nat := fun x => if x + 1 = i then 0 else if x + 1 < i then x + 1 else x
    have hP : ∀ x, sk i (P x) = swn 0 i (x + 1) := fun x => by
      show sk i (if x + 1 = i then 0 else if x + 1 < i then x + 1 else x) = _
      unfold sk swn
      split <;> (try split) <;> (try split) <;> (try split) <;> omega
    rw [← eD_perm n (fun x => g (sk i x)) (fun x y => A (sk i x) (sk i y)) (D := P) (fun l h => by
      show (if l + 1 = i then 0 else if l + 1 < i then l + 1 else l) < n
      split
      · omega
      · split <;> omega) (fun x y _ _ e => by
      have e2 : swn 0 i (x + 1) = swn 0 i (y + 1) := by rw [← hP, ← hP, e]
      have e3 : x + 1 = y + 1 := by rw [← swn_swn 0 i (x + 1), e2, swn_swn]
      omega) k]
    exact eD_congr (fun x _ => by rw [hP]) (fun x y _ _ => by rw [hP, hP]) k
/-- Newton's inequalities from those with the parts -/
theorem nk_of_lk {n : Nat} (L : LAll n) {g : Nat → Int} {A : Mx} (hg : ∀ i, i < n + 1 → 0 < g i) (hA : Sym (n + 1) A) : NKq (eD (n + 1) g A) := fun k => by
  have hs : 0 ≤ sI (n + 1) fun i => g i * (eD (n + 1) g A k * eD n (fun x => g (sk i x)) (fun x y => A (sk i x) (sk i y)) k - eD (n + 1) g A (k + 1) * sh (eD n (fun x => g (sk i x)) (fun x y => A (sk i x) (sk i y))) k) :=
    sI_nn fun i hi => Int.mul_nonneg (Int.le_of_lt (hg i hi)) (L.at_ hg hA hi k).1
  have e1 := eD_avg n g A k
  rw [sI_congr (g := fun i => eD (n + 1) g A k * (g i * eD n (fun x => g (sk i x)) (fun x y => A (sk i x) (sk i y)) k) - eD (n + 1) g A (k + 1) * (g i * sh (eD n (fun x => g (sk i x)) (fun x y => A (sk i x) (sk i y))) k)) fun i _ => by grind, sI_sub, sI_mul, sI_mul, e1] at hs
  clear e1
  have hk0 : n + 1 < k + 1 → eD (n + 1) g A (k + 1) = 0 := fun h => eD_high h
  have hk1 : n + 1 < k → eD (n + 1) g A k = 0 := fun h => eD_high h
  cases k with
  | zero =>
    have e0 : 0 < eD (n + 1) g A 0 := by rw [eD_zero]; exact pI_pos hg
    have := Int.mul_pos e0 e0
    rw [sh_zero, Int.mul_zero, Int.sub_zero]
    exact ⟨by omega, fun _ => this⟩
  | succ j =>
    rw [sI_congr (g := fun i => g i * eD n (fun x => g (sk i x)) (fun x y => A (sk i x) (sk i y)) j) fun i _ => by rw [sh_succ], eD_avg n g A j] at hs
    rw [sh_succ]
    generalize eD (n + 1) g A (j + 1) = y at *
    generalize eD (n + 1) g A (j + 1 + 1) = z at *
    generalize eD (n + 1) g A j = x at *
    have hy := mulself y
    have hy2 : y ≠ 0 → 0 < y * y := fun h => by
      rcases Int.lt_or_eq_of_le hy with h2 | h2
      · exact h2
      · exact absurd (Int.mul_eq_zero.1 h2.symm) (by simp [h])
    rcases Nat.lt_or_ge (n + 1) (j + 1) with h | h
    · rw [hk1 h, hk0 (by omega)]
      exact ⟨by simp, fun h => absurd rfl h⟩
    · rcases Nat.lt_or_eq_of_le h with h | h
      · have hc : (0 : Int) < (n : Int) + 1 - ((j + 1 : Nat) : Int) := by omega
        have e2 : (n : Int) + 1 - (j : Int) = ((n : Int) + 1 - ((j + 1 : Nat) : Int)) + 1 := by omega
        rw [e2] at hs
        generalize (n : Int) + 1 - ((j + 1 : Nat) : Int) = c at hs hc
        rcases Int.lt_or_le 0 (z * x) with hx | hx
        · have h3 : 0 < c * (y * y - z * x) := by
            have : c * (y * y - z * x) = y * (c * y) - z * ((c + 1) * x) + z * x := by grind
            omega
          have h4 : 0 < y * y - z * x := Classical.byContradiction fun hn => by
            have := Int.mul_nonneg (Int.le_of_lt hc) (show 0 ≤ -(y * y - z * x) by omega)
            rw [Int.mul_neg] at this
            omega
          exact ⟨by omega, fun _ => h4⟩
        · exact ⟨by omega, fun h => by have := hy2 h; omega⟩
      · rw [hk0 (by omega), Int.zero_mul, Int.sub_zero]
        exact ⟨hy, hy2⟩

/-! ### rotating two indices -/
section
variable (y : Nat) (a b c d : Int)
def roT : Mx := fun x z => if z = 1 then (if x = 1 then a else if x = y then b else 0) else if z = y then (if x = 1 then c else if x = y then d else 0) else if x = z then 1 else 0
def ro (f : Nat → Int) (i : Nat) : Int := if i = 1 then a * f 1 + b * f y else if i = y then c * f 1 + d * f y else f i
variable {y a b c d}
theorem ro_sum {N i : Nat} (h1 : 1 < N) (hy : y < N) (hy1 : y ≠ 1) (hi : i < N) (f : Nat → Int) : (sI N fun x => roT y a b c d x i * f x) = ro y a b c d f i := by
  unfold roT ro
  by_cases e1 : i = 1
  · subst e1
    rw [if_pos rfl, sI_two (p := 1) (q := y) _ h1 hy (Ne.symm hy1) fun j _ n1 n2 => by rw [if_pos rfl, if_neg n1, if_neg n2, Int.zero_mul]]
    rw [if_pos rfl, if_pos rfl, if_pos rfl, if_neg hy1, if_pos rfl]
  · by_cases e2 : i = y
    · subst e2
      rw [if_neg e1, if_pos rfl, sI_two (p := 1) (q := i) _ h1 hy (Ne.symm hy1) fun j _ n1 n2 => by rw [if_neg e1, if_pos rfl, if_neg n1, if_neg n2, Int.zero_mul]]
      rw [if_neg e1, if_pos rfl, if_pos rfl, if_neg e1, if_pos rfl, if_neg hy1, if_pos rfl]
    · rw [if_neg e1, if_neg e2, sI_one (k := i) _ hi fun j _ n1 => by rw [if_neg e1, if_neg e2, if_neg n1, Int.zero_mul], if_neg e1, if_neg e2, if_pos rfl, Int.one_mul]
theorem cgM_ro {N i j : Nat} (h1 : 1 < N) (hy : y < N) (hy1 : y ≠ 1) (hi : i < N) (hj : j < N) (M : Mx) : cgM N (roT y a b c d) M i j = ro y a b c d (fun p => ro y a b c d (fun q => M p q) j) i := by
  unfold cgM
  rw [ro_sum h1 hy hy1 hi]
  refine _root_.congrFun (_root_.congrArg _ (funext fun p => ?_)) i
  rw [← ro_sum h1 hy hy1 hj]
  exact sI_congr fun q _ => Int.mul_comm _ _
theorem cgM_sym {N : Nat} {T A : Mx} (h : Sym N A) : Sym N (cgM N T A) := fun i j _ _ => by
  unfold cgM
  rw [sI_congr (g := fun p => sI N fun q => T p i * (A p q * T q j)) fun p _ => (sI_mul _ _ _).symm, sI_swap, sI_congr (n := N) (f := fun p => T p j * _) (g := fun p => sI N fun q => T p j * (A p q * T q i)) fun p _ => (sI_mul _ _ _).symm]
  refine sI_congr fun p hp => sI_congr fun q hq => ?_
  rw [h q p hq hp, ← Int.mul_assoc, Int.mul_comm, Int.mul_comm (T q i)]
/-- the part without the first index -/
theorem cgM_part {n : Nat} (hy : 2 ≤ y) (M : Mx) (i j : Nat) : cgM (n + 1) (roT y a b c d) M (i + 1) (j + 1) = cgM n (fun p q => roT y a b c d (p + 1) (q + 1)) (fun p q => M (p + 1) (q + 1)) i j := by
  have z : ∀ k, roT y a b c d 0 (k + 1) = 0 := fun k => by
    unfold roT
    rw [if_neg (show ¬ (0 = 1) by omega), if_neg (show ¬ 0 = y by omega), if_neg (show ¬ (0 = 1) by omega), if_neg (show ¬ 0 = y by omega), if_neg (show ¬ 0 = k + 1 by omega)]
    simp
  unfold cgM
  rw [sI_succ', z, Int.zero_mul, Int.zero_add]
  refine sI_congr fun p _ => ?_
  rw [sI_succ', z, Int.mul_zero, Int.zero_add]
theorem det_roT {n : Nat} (hy : 2 ≤ y) : det (n + 1) (roT y a b c d) = det n fun p q => roT y a b c d (p + 1) (q + 1) := by
  have z : ∀ k, roT y a b c d 0 k = if k = 0 then 1 else 0 := fun k => by
    unfold roT
    by_cases e : k = 0
    · subst e; rw [if_neg (by omega), if_neg (by omega), if_pos rfl]
    · rw [if_neg (show ¬ (0 = 1) by omega), if_neg (show ¬ 0 = y by omega), if_neg (show ¬ (0 = 1) by omega), if_neg (show ¬ 0 = y by omega), if_neg (show ¬ 0 = k by omega), if_neg e]
      simp
  rw [det_succ, sI_one (k := 0) _ (by omega) fun j _ hj => by rw [z, if_neg hj, Int.mul_zero, Int.zero_mul], z, if_pos rfl, show sg1 0 = 1 from rfl, Int.one_mul, Int.one_mul]
  exact det_congr fun i j _ _ => by rw [sk_zero]
end
theorem det_dgg {n : Nat} (g : Nat → Int) : det n (dg g) = pI n g := by
  rw [det_upper (A := dg g) fun i j _ hj => if_neg (by omega)]
  exact pI_congr fun i _ => if_pos rfl
/-- one entry of the first row made 0 -/
theorem lk_rot {n y : Nat} (hy2 : 2 ≤ y) (hyn : y < n + 1) {g : Nat → Int} {A : Mx} (hg : ∀ i, i < n + 1 → 0 < g i) (hA : Sym (n + 1) A) (hb : A 0 y ≠ 0)
    (K : ∀ (g' : Nat → Int) (A' : Mx), (∀ i, i < n + 1 → 0 < g' i) → Sym (n + 1) A' → A' 0 y = 0 → (∀ j, j < n + 1 → j ≠ 1 → j ≠ y → A' 0 j = A 0 j) → LKq (eD (n + 1) g' A') (eD n (fun x => g' (x + 1)) (fun x y => A' (x + 1) (y + 1)))) :
    LKq (eD (n + 1) g A) (eD n (fun x => g (x + 1)) (fun x y => A (x + 1) (y + 1))) := by
  obtain ⟨p, hp⟩ : ∃ p, A 0 1 = p := ⟨_, rfl⟩
  obtain ⟨q, hq⟩ : ∃ q, A 0 y = q := ⟨_, rfl⟩
  rw [hq] at hb
  have g1 := hg 1 (by omega)
  have gy := hg y hyn
  have hy1 : y ≠ 1 := by omega
  let T := roT y (p * g y) (q * g 1) (-q) p
  let g' : Nat → Int := fun i => if i = 1 then p * g y * (p * g y) * g 1 + q * g 1 * (q * g 1) * g y else if i = y then q * q * g 1 + p * p * g y else g i
  have hqq : 0 < q * q := by
    rcases Int.lt_or_eq_of_le (mulself q) with h | h
    · exact h
    · exact absurd (Int.mul_eq_zero.1 h.symm) (by simp [hb])
  have hg' : ∀ i, i < n + 1 → 0 < g' i := fun i hi => by
    show 0 < (if i = 1 then _ else if i = y then _ else _)
    split
    · have h1 : 0 ≤ p * g y * (p * g y) * g 1 := Int.mul_nonneg (mulself _) (Int.le_of_lt g1)
      have h2 : 0 < q * g 1 * (q * g 1) * g y := by
        have : q * g 1 * (q * g 1) * g y = q * q * (g 1 * g 1 * g y) := by grind
        rw [this]
        exact Int.mul_pos hqq (Int.mul_pos (Int.mul_pos g1 g1) gy)
      omega
    · split
      · have h1 := Int.mul_pos hqq g1
        have h2 : 0 ≤ p * p * g y := Int.mul_nonneg (mulself _) (Int.le_of_lt gy)
        omega
      · exact hg i hi
  have eG : ∀ i j, i < n + 1 → j < n + 1 → cgM (n + 1) T (dg g) i j = dg g' i j := fun i j hi hj => by
    rw [cgM_ro (by omega) hyn hy1 hi hj]
    unfold ro dg
    show _ = if i = j then (if i = 1 then _ else if i = y then _ else _) else 0
    by_cases i1 : i = 1 <;> by_cases i2 : i = y <;> by_cases j1 : j = 1 <;> by_cases j2 : j = y <;> simp only [i1, i2, j1, j2, if_true, if_false, hy1, Ne.symm hy1] <;> grind
  have eA0 : ∀ j, j < n + 1 → cgM (n + 1) T A 0 j = ro y (p * g y) (q * g 1) (-q) p (fun k => A 0 k) j := fun j hj => by
    rw [cgM_ro (by omega) hyn hy1 (by omega) hj]
    show (if (0 : Nat) = 1 then _ else if 0 = y then _ else _) = _
    rw [if_neg (by omega), if_neg (by omega)]
  have hd : 0 < det (n + 1) T * det (n + 1) T := by
    have h1 := det_cgM (n + 1) T (dg g)
    rw [det_congr eG, det_dgg, det_dgg] at h1
    have h2 := pI_pos hg'
    rcases Int.lt_or_eq_of_le (mulself (det (n + 1) T)) with h | h
    · exact h
    · rw [← h, Int.zero_mul] at h1; omega
  refine LKq.scale hd (E' := eD (n + 1) g' (cgM (n + 1) T A)) (F' := eD n (fun x => g' (x + 1)) (fun x z => cgM (n + 1) T A (x + 1) (z + 1))) (fun k => ?_) (fun k => ?_) (K g' _ hg' (cgM_sym hA) ?_ fun j hj h1 h2 => ?_)
  · unfold eD
    rw [← cf_cg]
    exact cf_congr (fun i j hi hj => (eG i j hi hj).symm) (fun _ _ _ _ => rfl) k
  · unfold eD
    rw [show det (n + 1) T = _ from det_roT hy2, ← cf_cg]
    refine cf_congr (fun i j hi hj => ?_) (fun i j _ _ => cgM_part hy2 A i j) k
    have h1 := cgM_part (n := n) (a := p * g y) (b := q * g 1) (c := -q) (d := p) hy2 (dg g) i j
    rw [eG (i + 1) (j + 1) (by omega) (by omega)] at h1
    have h2 : ∀ (g : Nat → Int) i j, dg (fun x => g (x + 1)) i j = dg g (i + 1) (j + 1) := fun g i j => by
      unfold dg
      by_cases e : i = j
      · rw [if_pos e, if_pos (by omega)]
      · rw [if_neg e, if_neg (by omega)]
    rw [h2 g', h1]
    unfold cgM
    exact sI_congr fun p _ => _root_.congrArg _ (sI_congr fun q _ => by dsimp only; rw [h2 g])
  · rw [eA0 y hyn]
    unfold ro
    rw [if_neg hy1, if_pos rfl]
    dsimp only
    rw [hp, hq]
    grind
  · rw [eA0 j hj]
    unfold ro
    rw [if_neg h1, if_neg h2]
theorem lk_red {n : Nat} (B : ∀ (g : Nat → Int) (A : Mx), (∀ i, i < n + 1 → 0 < g i) → Sym (n + 1) A → (∀ j, 1 < j → j < n + 1 → A 0 j = 0) → LKq (eD (n + 1) g A) (eD n (fun x => g (x + 1)) (fun x y => A (x + 1) (y + 1)))) :
    ∀ m, 1 ≤ m → ∀ (g : Nat → Int) (A : Mx), (∀ i, i < n + 1 → 0 < g i) → Sym (n + 1) A → (∀ j, m < j → j < n + 1 → A 0 j = 0) → LKq (eD (n + 1) g A) (eD n (fun x => g (x + 1)) (fun x y => A (x + 1) (y + 1)))
  | 0, h => by omega
  | 1, _ => B
  | m + 2, _ => fun g A hg hA h0 => by
    by_cases hc : m + 2 < n + 1 ∧ A 0 (m + 2) ≠ 0
    · refine lk_rot (by omega) hc.1 hg hA hc.2 fun g' A' hg' hA' h1 h2 => lk_red B (m + 1) (by omega) g' A' hg' hA' fun j hj hjn => ?_
      by_cases e : j = m + 2
      · rw [e]; exact h1
      · rw [h2 j hjn (by omega) e]; exact h0 j (by omega) hjn
    · refine lk_red B (m + 1) (by omega) g A hg hA fun j hj hjn => ?_
      by_cases e : j = m + 2
      · subst e
        exact Classical.byContradiction fun h => hc ⟨hjn, h⟩
      · exact h0 j (by omega) hjn
theorem lall : ∀ n, LAll n
  | 0 => fun g A hg _ k => by
    cases k with
    | zero =>
      rw [sh_zero, Int.mul_zero, Int.sub_zero, eD_zero, eD_zero]
      have := Int.mul_pos (pI_pos hg) (pI_pos (n := 0) (g := fun x => g (x + 1)) fun i hi => absurd hi (Nat.not_lt_zero i))
      exact ⟨by omega, fun _ => this⟩
    | succ k =>
      rw [eD_high (n := 0 + 1) (k := k + 1 + 1) (by omega), eD_high (n := 0) (k := k + 1) (by omega)]
      simp
  | n + 1 => fun g A hg hA => by
    refine lk_red (n := n + 1) (fun g A hg hA h0 => ?_) (n + 2) (by omega) g A hg hA fun j h1 h2 => by omega
    let A' : Mx := fun i j => if i < n + 2 ∧ j < n + 2 then A i j else 0
    have eA : ∀ i j, i < n + 2 → j < n + 2 → A i j = A' i j := fun i j hi hj => (if_pos ⟨hi, hj⟩ : A' i j = A i j).symm
    have hstep : LKq (eD (n + 2) g A') (eD (n + 1) (fun x => g (x + 1)) (fun x y => A' (x + 1) (y + 1))) := by
      refine LKq.step (H := eD n (fun x => g (x + 2)) (fun x y => A' (x + 2) (y + 2))) (g := g 0) (a := A' 0 0) (b := A' 0 1) (hg 0 (by omega)) (eD_row n g A' (fun j => ?_) fun j hj => ?_) ?_ ?_
      · by_cases h : j < n + 2
        · rw [← eA j 0 h (by omega), ← eA 0 j (by omega) h]; exact hA j 0 h (by omega)
        · show (if _ then _ else _) = if _ then _ else _
          rw [if_neg fun h' => h h'.1, if_neg fun h' => h h'.2]
      · show (if _ then _ else _) = _
        split
        · rename_i h; exact h0 j (by omega) h.2
        · rfl
      · refine nk_of_lk (lall n) (fun i hi => hg (i + 1) (by omega)) fun i j hi hj => ?_
        have e1 := eA (i + 1) (j + 1) (by omega) (by omega)
        have e2 := eA (j + 1) (i + 1) (by omega) (by omega)
        exact e1.symm.trans ((hA _ _ (by omega) (by omega)).trans e2)
      · refine lall n (fun x => g (x + 1)) (fun x y => A' (x + 1) (y + 1)) (fun i hi => hg (i + 1) (by omega)) fun i j hi hj => ?_
        have e1 := eA (i + 1) (j + 1) (by omega) (by omega)
        have e2 := eA (j + 1) (i + 1) (by omega) (by omega)
        exact e1.symm.trans ((hA _ _ (by omega) (by omega)).trans e2)
    exact hstep.congr (fun k => eD_congr (fun _ _ => rfl) eA k) fun k => eD_congr (fun _ _ => rfl) (fun i j hi hj => eA _ _ (by omega) (by omega)) k
end Go.Proofs.Yteanhbldhaiekaa
namespace Go.Proofs.Yteanhbldhaiekaa

/-! ### changes of sign -/
/-- the last element that is not 0, among the first K -/
def chL (f : Nat → Int) : Nat → Int
  | 0 => 0
  | k + 1 => if f k = 0 then chL f k else f k
/-- the changes of sign among the first K -/
def chN (f : Nat → Int) : Nat → Nat
  | 0 => 0
  | k + 1 => if f k ≠ 0 ∧ chL f k ≠ 0 ∧ (decide (f k < 0) != decide (chL f k < 0)) = true then chN f k + 1 else chN f k
theorem chN_congr {f g : Nat → Int} (h : ∀ k, f k = g k) (K : Nat) : chN f K = chN g K ∧ chL f K = chL g K := by
  have : f = g := funext h
  subst this; exact ⟨rfl, rfl⟩
theorem sg1_two (n : Nat) : sg1 n = 1 ∨ sg1 n = -1 := by unfold sg1; split; exact .inl rfl; exact .inr rfl
theorem sg1_mul (n : Nat) : sg1 n * sg1 n = 1 := by rcases sg1_two n with h | h <;> rw [h] <;> rfl
/-- the sign of the last one tells the parity of the changes -/
theorem chL_sign {f : Nat → Int} (h0 : 0 < f 0) : ∀ K, 0 < sg1 (chN f (K + 1)) * chL f (K + 1)
  | 0 => by
    have e1 : chL f 1 = f 0 := by
      show (if f 0 = 0 then (0 : Int) else f 0) = f 0
      rw [if_neg (by omega)]
    have e2 : chN f 1 = 0 := if_neg fun h => h.2.1 rfl
    rw [e1, e2, show sg1 0 = 1 from rfl, Int.one_mul]; exact h0
  | K + 1 => by
    have ih := chL_sign h0 K
    have hl : chL f (K + 1) ≠ 0 := fun e => by rw [e, Int.mul_zero] at ih; omega
    by_cases hz : f (K + 1) = 0
    · have e1 : chL f (K + 1 + 1) = chL f (K + 1) := if_pos hz
      have e2 : chN f (K + 1 + 1) = chN f (K + 1) := if_neg fun h => h.1 hz
      rw [e1, e2]; exact ih
    · have e1 : chL f (K + 1 + 1) = f (K + 1) := if_neg hz
      rw [e1]
      by_cases hc : (decide (f (K + 1) < 0) != decide (chL f (K + 1) < 0)) = true
      · have e2 : chN f (K + 1 + 1) = chN f (K + 1) + 1 := if_pos ⟨hz, hl, hc⟩
        rw [e2, sg1_succ]
        rw [bne_iff_ne, ne_eq, decide_eq_decide] at hc
        rcases sg1_two (chN f (K + 1)) with h | h <;> rw [h] at ih ⊢ <;> omega
      · have e2 : chN f (K + 1 + 1) = chN f (K + 1) := if_neg fun h => hc h.2.2
        rw [e2]
        rw [bne_iff_ne, ne_eq, decide_eq_decide, Classical.not_not] at hc
        rcases sg1_two (chN f (K + 1)) with h | h <;> rw [h] at ih ⊢ <;> omega
theorem chN_mono (f : Nat → Int) : ∀ {a b : Nat}, a ≤ b → chN f a ≤ chN f b
  | a, 0, h => by
    obtain rfl : a = 0 := by omega
    exact Nat.le_refl _
  | a, b + 1, h => by
    by_cases e : a = b + 1
    · subst e; exact Nat.le_refl _
    · have := chN_mono f (a := a) (b := b) (by omega)
      have h2 : chN f b ≤ chN f (b + 1) := by
        have e2 : chN f (b + 1) = if f b ≠ 0 ∧ chL f b ≠ 0 ∧ (decide (f b < 0) != decide (chL f b < 0)) = true then chN f b + 1 else chN f b := rfl
        rw [e2]
        split <;> omega
      omega
/-- v changes, the last one at M -/
def Chn (f : Nat → Int) : Nat → Nat → Prop
  | 0, M => 0 < f M
  | v + 1, M => 0 < sg1 (v + 1) * f M ∧ ∃ M', M' < M ∧ Chn f v M'
theorem Chn.sign {f : Nat → Int} : ∀ {v M : Nat}, Chn f v M → 0 < sg1 v * f M
  | 0, _, h => by rw [show sg1 0 = 1 from rfl, Int.one_mul]; exact h
  | _ + 1, _, h => h.1
theorem Chn.le {f : Nat → Int} (h0 : 0 < f 0) : ∀ {v M : Nat}, Chn f v M → v ≤ chN f (M + 1)
  | 0, _, _ => Nat.zero_le _
  | v + 1, M, ⟨hs, M', hM, h⟩ => by
    have ih := Chn.le h0 h
    have hm := chN_mono f (show M' + 1 ≤ M by omega)
    have hm2 := chN_mono f (show M ≤ M + 1 by omega)
    rcases Nat.lt_or_ge v (chN f M) with h1 | h1
    · omega
    · have e : chN f M = v := by omega
      obtain ⟨K, rfl⟩ : ∃ K, M = K + 1 := ⟨M - 1, by omega⟩
      have hl := chL_sign h0 K
      rw [e] at hl
      have e2 : chN f (K + 1 + 1) = chN f (K + 1) + 1 := if_pos ⟨fun hz => by rw [hz, Int.mul_zero] at hs; omega, fun hz => by rw [hz, Int.mul_zero] at hl; omega, by
        rw [bne_iff_ne, ne_eq, decide_eq_decide]
        rw [sg1_succ] at hs
        rcases sg1_two v with h | h <;> rw [h] at hl hs <;> omega⟩
      omega
/-- from a part to the whole -/
theorem chn_part {E F : Nat → Int} (hE : 0 < E 0) (hF : 0 < F 0) (hL : ∀ k, F k ≠ 0 → 0 < E k * F k - E (k + 1) * sh F k) : ∀ K, ∃ M, M ≤ K + 1 ∧ Chn E (chN F (K + 1)) M ∧ (M = K + 1 → F K ≠ 0)
  | 0 => ⟨0, by omega, by rw [show chN F 1 = 0 from if_neg fun h => h.2.1 rfl]; exact hE, fun h => by omega⟩
  | K + 1 => by
    obtain ⟨M, hM, hC, hM2⟩ := chn_part hE hF hL K
    have hl := chL_sign hF K
    have hl0 : chL F (K + 1) ≠ 0 := fun e => by rw [e, Int.mul_zero] at hl; omega
    by_cases hc : F (K + 1) ≠ 0 ∧ chL F (K + 1) ≠ 0 ∧ (decide (F (K + 1) < 0) != decide (chL F (K + 1) < 0)) = true
    · have e2 : chN F (K + 1 + 1) = chN F (K + 1) + 1 := if_pos hc
      obtain ⟨c1, -, c3⟩ := hc
      rw [bne_iff_ne, ne_eq, decide_eq_decide] at c3
      have hk := hL (K + 1) c1
      rw [sh_succ] at hk
      have e3 : F K ≠ 0 → chL F (K + 1) = F K := fun h => if_neg h
      obtain ⟨v, hv⟩ : ∃ v, chN F (K + 1) = v := ⟨_, rfl⟩
      rw [hv] at hl hC e2
      have hs := hC.sign
      have f1 : 0 < sg1 (v + 1) * F (K + 1) := by
        rw [sg1_succ]
        rcases sg1_two v with h | h <;> rw [h] at hl ⊢ <;> omega
      by_cases hp : 0 < sg1 (v + 1) * E (K + 1)
      · refine ⟨K + 1, by omega, ?_, fun h => by omega⟩
        rw [e2]
        refine ⟨hp, M, ?_, hC⟩
        rcases Nat.lt_or_eq_of_le hM with h | h
        · exact h
        · rw [h] at hs
          rw [sg1_succ] at hp
          rcases sg1_two v with h | h <;> rw [h] at hs hp <;> omega
      · -- the next one
        have p1 : E (K + 1) * F (K + 1) ≤ 0 := by
          have h1 : sg1 (v + 1) * E (K + 1) * (sg1 (v + 1) * F (K + 1)) = E (K + 1) * F (K + 1) := by
            have := sg1_mul (v + 1)
            grind
          rw [← h1]
          exact Int.mul_nonpos_of_nonpos_of_nonneg (by omega) (by omega)
        have p2 : E (K + 1 + 1) * F K < 0 := by omega
        have hK : F K ≠ 0 := fun h => by rw [h, Int.mul_zero] at p2; omega
        have hlK := e3 hK
        rw [hlK] at hl
        have p3 : 0 < sg1 (v + 1) * E (K + 1 + 1) := by
          rw [sg1_succ]
          have h2 : (-sg1 v * E (K + 1 + 1)) * (sg1 v * F K) = -(E (K + 1 + 1) * F K) := by
            have := sg1_mul v
            grind
          refine Classical.byContradiction fun hn => ?_
          have := Int.mul_nonpos_of_nonpos_of_nonneg (show -sg1 v * E (K + 1 + 1) ≤ 0 by omega) (Int.le_of_lt hl)
          rw [h2] at this
          omega
        refine ⟨K + 1 + 1, by omega, ?_, fun _ => c1⟩
        rw [e2]
        exact ⟨p3, M, by omega, hC⟩
    · have e2 : chN F (K + 1 + 1) = chN F (K + 1) := if_neg hc
      exact ⟨M, by omega, by rw [e2]; exact hC, fun h => by omega⟩
/-- the changes of both lists -/
theorem chN_both {f : Nat → Int} (h0 : 0 < f 0) : ∀ K, ∃ l, l ≤ K ∧ f l ≠ 0 ∧ (∀ k, l < k → k ≤ K → f k = 0) ∧ chL f (K + 1) = f l ∧ chL (fun k => sg1 k * f k) (K + 1) = sg1 l * f l ∧ chN f (K + 1) + chN (fun k => sg1 k * f k) (K + 1) ≤ l
  | 0 => by
    have e1 : chL f 1 = f 0 := by
      show (if f 0 = 0 then (0 : Int) else f 0) = f 0
      rw [if_neg (by omega)]
    have e2 : chN f 1 = 0 := if_neg fun h => h.2.1 rfl
    have e3 : chN (fun k => sg1 k * f k) 1 = 0 := if_neg fun h => h.2.1 rfl
    have e4 : chL (fun k => sg1 k * f k) 1 = sg1 0 * f 0 := if_neg (by show ¬ sg1 0 * f 0 = 0; rw [show sg1 0 = 1 from rfl]; omega)
    exact ⟨0, Nat.le_refl _, by omega, fun k h1 h2 => by omega, e1, e4, by rw [Nat.zero_add, e2, e3]; omega⟩
  | K + 1 => by
    obtain ⟨l, hl, hl0, hz, h1, h2, h3⟩ := chN_both h0 K
    by_cases e : f (K + 1) = 0
    · have e' : (fun k => sg1 k * f k) (K + 1) = 0 := by show sg1 (K + 1) * f (K + 1) = 0; rw [e, Int.mul_zero]
      have a1 : chL f (K + 1 + 1) = chL f (K + 1) := if_pos e
      have a2 : chN f (K + 1 + 1) = chN f (K + 1) := if_neg fun h => h.1 e
      have a3 : chL (fun k => sg1 k * f k) (K + 1 + 1) = chL (fun k => sg1 k * f k) (K + 1) := if_pos e'
      have a4 : chN (fun k => sg1 k * f k) (K + 1 + 1) = chN (fun k => sg1 k * f k) (K + 1) := if_neg fun h => h.1 e'
      refine ⟨l, by omega, hl0, fun k h4 h5 => ?_, a1.trans h1, a3.trans h2, by omega⟩
      by_cases ek : k = K + 1
      · rw [ek]; exact e
      · exact hz k h4 (by omega)
    · have e' : ¬ (fun k => sg1 k * f k) (K + 1) = 0 := fun h => by
        rcases Int.mul_eq_zero.1 h with h | h
        · rcases sg1_two (K + 1) with h' | h' <;> rw [h'] at h <;> omega
        · exact e h
      have a1 : chL f (K + 1 + 1) = f (K + 1) := if_neg e
      have a3 : chL (fun k => sg1 k * f k) (K + 1 + 1) = sg1 (K + 1) * f (K + 1) := if_neg e'
      refine ⟨K + 1, Nat.le_refl _, e, fun k h4 h5 => by omega, a1, a3, ?_⟩
      have b1 : chN f (K + 1 + 1) = chN f (K + 1) + if (decide (f (K + 1) < 0) != decide (f l < 0)) = true then 1 else 0 := by
        show (if _ then _ else _) = _
        rw [h1]
        by_cases h : (decide (f (K + 1) < 0) != decide (f l < 0)) = true
        · rw [if_pos ⟨e, hl0, h⟩, if_pos h]
        · rw [if_neg fun h' => h h'.2.2, if_neg h]; rfl
      have b2 : chN (fun k => sg1 k * f k) (K + 1 + 1) = chN (fun k => sg1 k * f k) (K + 1) + if (decide (sg1 (K + 1) * f (K + 1) < 0) != decide (sg1 l * f l < 0)) = true then 1 else 0 := by
        show (if _ then _ else _) = _
        rw [h2]
        have hl' : sg1 l * f l ≠ 0 := fun h => by
          rcases Int.mul_eq_zero.1 h with h | h
          · rcases sg1_two l with h' | h' <;> rw [h'] at h <;> omega
          · exact hl0 h
        by_cases h : (decide (sg1 (K + 1) * f (K + 1) < 0) != decide (sg1 l * f l < 0)) = true
        · rw [if_pos ⟨e', hl', h⟩, if_pos h]
        · rw [if_neg fun h' => h h'.2.2, if_neg h]; rfl
      rw [b1, b2]
      by_cases hd : l + 1 = K + 1
      · -- exactly one
        have hx : ¬ ((decide (f (K + 1) < 0) != decide (f l < 0)) = true ∧ (decide (sg1 (K + 1) * f (K + 1) < 0) != decide (sg1 l * f l < 0)) = true) := by
          rw [bne_iff_ne, bne_iff_ne, ne_eq, ne_eq, decide_eq_decide, decide_eq_decide, ← hd, sg1_succ]
          rw [← hd] at e
          rcases sg1_two l with h | h <;> rw [h] <;> omega
        split
        · rw [if_neg fun h => hx ⟨by assumption, h⟩]; omega
        · split <;> omega
      · split <;> split <;> omega

theorem cB_bump {f : Nat → Bool} : ∀ {n x0 : Nat}, x0 < n → f x0 = false → cB n (fun x => f x || decide (x = x0)) = cB n f + 1
  | n + 1, x0, hx, h0 => by
    show cB n (fun x => f x || decide (x = x0)) + (if (f n || decide (n = x0)) = true then 1 else 0) = cB n f + (if f n = true then 1 else 0) + 1
    by_cases e : x0 = n
    · subst e
      rw [h0, cB_congr (g := f) fun k hk => by rw [decide_eq_false (by omega), Bool.or_false]]
      simp
    · rw [cB_bump (n := n) (by omega) h0, decide_eq_false (show ¬ n = x0 by omega), Bool.or_false]
      omega
/-! ### the parts of a form -/
theorem bst_step {n : Nat} {A : Mx} (hA : Sym n A) {D : Nat → Nat} {k : Nat} {b : Int} {p q : Nat} (h : BSt n A D k b p q) : (∃ p q, Inr n A p q) ∨ ∃ D' k' b' p' q', k < k' ∧ BSt n A D' k' b' p' q' := by
  classical
  by_cases h1 : ∃ j, j < n ∧ ¬ Dn D k j ∧ bm A D k j j ≠ 0
  · obtain ⟨j, hj, hjD, h0⟩ := h1
    exact .inr ⟨_, _, _, _, _, Nat.lt_succ_self k, h.one hA hj hjD h0⟩
  · have hz : ∀ j, j < n → ¬ Dn D k j → bm A D k j j = 0 := fun j hj hjD => Classical.byContradiction fun h => h1 ⟨j, hj, hjD, h⟩
    by_cases h2 : ∃ x y, x < n ∧ y < n ∧ ¬ Dn D k x ∧ ¬ Dn D k y ∧ bm A D k x y ≠ 0
    · obtain ⟨x, y, hx, hy, hxD, hyD, h0⟩ := h2
      exact .inr ⟨_, _, _, _, _, by omega, (h.two hA hx hy hxD hyD (hz x hx hxD) (hz y hy hyD) h0).1⟩
    · exact .inl ⟨p, q, h.inr hA (fun i => decide (Dn D k i)) (fun i _ => decide_eq_true_iff) fun i j hi hj hiD hjD => Classical.byContradiction fun h => h2 ⟨i, j, hi, hj, hiD, hjD, h⟩⟩
theorem bst_ends {n : Nat} {A : Mx} (hA : Sym n A) : ∀ (d : Nat) {D : Nat → Nat} {k : Nat} {b : Int} {p q : Nat}, BSt n A D k b p q → n ≤ k + d → ∃ p q, Inr n A p q
  | 0, D, k, b, p, q, h, hd => by
    rcases bst_step hA h with h1 | ⟨D', k', b', p', q', hk, h'⟩
    · exact h1
    · have := h'.kn; omega
  | d + 1, D, k, b, p, q, h, hd => by
    rcases bst_step hA h with h1 | ⟨D', k', b', p', q', hk, h'⟩
    · exact h1
    · exact bst_ends hA d h' (by omega)
theorem inr_ex {n : Nat} {A : Mx} (hA : Sym n A) : ∃ p q, Inr n A p q := bst_ends hA n (BSt.start n A fun x => x) (by omega)
/-- without the index i -/
theorem bil_sk {n i : Nat} (hi : i < n + 1) (A : Mx) {u v : Nat → Int} (hu : u i = 0) (hv : v i = 0) : bil (n + 1) A u v = bil n (fun x y => A (sk i x) (sk i y)) (fun x => u (sk i x)) fun x => v (sk i x) := by
  unfold bil
  rw [sI_sk _ hi, hu, Int.zero_mul, Int.add_zero]
  exact sI_congr fun m _ => by rw [sI_sk _ hi, hv, Int.mul_zero, Int.add_zero]
/-- a part has at most one negative number fewer; and not even that one, if what lies in the kernel does not lie in the part -/
theorem inr_part {n i : Nat} (hi : i < n + 1) {A : Mx} {V : Mx} {d : Nat → Int} (hV : Fam (n + 1) A V d (n + 1)) {p' q' : Nat} (h' : Inr n (fun x y => A (sk i x) (sk i y)) p' q') (z : Nat → Bool) (hz : ∀ x, x < n + 1 → z x = true → d x = 0)
    (hzi : ∀ c : Nat → Int, (∀ x, x < n + 1 → z x = false → c x = 0) → (sI (n + 1) fun x => c x * V x i) = 0 → ∀ x, x < n + 1 → c x = 0) :
    cB (n + 1) (fun x => decide (d x < 0) || z x) ≤ q' + 1 := by
  obtain ⟨W, d', hW, -, rfl⟩ := h'
  refine Classical.byContradiction fun hlt => ?_
  have hnot := cB_not (n + 1) (fun x => decide (d x < 0) || z x)
  obtain ⟨c, ⟨x, hx, hc⟩, hes⟩ := dep_len _ ((List.range n).map (fun m x => if x < n + 1 then V x (sk i m) else -W (x - (n + 1)) m) ++ ((fun x => if x < n + 1 then V x i else 0) :: (((List.range (n + 1)).filter (fun x => !(decide (d x < 0) || z x))).map (fun y x => if x = y then 1 else 0) ++
      ((List.range n).filter (fun x => decide (d' x < 0))).map (fun y x => if x = n + 1 + y then 1 else 0)))) (n + 1 + n) rfl (by
    rw [List.length_append, List.length_cons, List.length_append, List.length_map, List.length_map, List.length_map, List.length_range, cB_filter, cB_filter]
    omega)
  have e0 : (sI (n + 1) fun x => c x * V x i) = 0 := by
    have := hes _ (List.mem_append_right _ (List.mem_cons_self))
    rw [sI_len] at this
    rw [sI_congr (g := fun x => c x * V x i) fun x hx => by rw [if_pos hx, Int.mul_comm], sI_all0 (n := n) fun y hy => by rw [if_neg (by omega), Int.zero_mul], Int.add_zero] at this
    exact this
  have e1 : ∀ m, m < n → (sI (n + 1) fun x => c x * V x (sk i m)) = sI n (fun y => c (n + 1 + y) * W y m) := fun m hm => by
    have := hes _ (List.mem_append_left _ (List.mem_map_of_mem (List.mem_range.2 hm)))
    rw [sI_len] at this
    rw [sI_congr (g := fun x => c x * V x (sk i m)) fun x hx => by rw [if_pos hx, Int.mul_comm], sI_congr (n := n) (f := fun k => _ * c (n + 1 + k)) (g := fun y => -(c (n + 1 + y) * W y m)) fun y hy => by
      rw [if_neg (by omega), show n + 1 + y - (n + 1) = y by omega, Int.neg_mul, Int.mul_comm], sI_neg] at this
    omega
  have e2 : ∀ y, y < n + 1 → ¬ d y < 0 → z y = false → c y = 0 := fun y hy hd hzy => by
    have := hes _ (List.mem_append_right _ (List.mem_cons_of_mem _ (List.mem_append_left _ (List.mem_map_of_mem (List.mem_filter.2 ⟨List.mem_range.2 hy, by simp [hzy]; omega⟩)))))
    rw [sI_one (k := y) _ (by omega) fun j _ hne => by rw [if_neg hne, Int.zero_mul], if_pos rfl] at this
    omega
  have e3 : ∀ y, y < n → d' y < 0 → c (n + 1 + y) = 0 := fun y hy hd => by
    have := hes _ (List.mem_append_right _ (List.mem_cons_of_mem _ (List.mem_append_right _ (List.mem_map_of_mem (List.mem_filter.2 ⟨List.mem_range.2 hy, by simpa using hd⟩)))))
    rw [sI_one (k := n + 1 + y) _ (by omega) fun j _ hne => by rw [if_neg hne, Int.zero_mul], if_pos rfl] at this
    omega
  have s1 := hV.sq c
  have s2 := hW.sq fun y => c (n + 1 + y)
  rw [bil_sk hi A e0 e0, bil_congr (n := n) (fun _ _ _ _ => rfl) e1 e1, s2] at s1
  have nn : ∀ y, y < n → 0 ≤ c (n + 1 + y) * c (n + 1 + y) * d' y := fun y hy => by
    by_cases hd : d' y < 0
    · rw [e3 y hy hd]; simp
    · exact Int.mul_nonneg (mulself _) (by omega)
  have np : ∀ x, x < n + 1 → 0 ≤ -(c x * c x * d x) := fun x hx => by
    by_cases hd : d x < 0
    · have := Int.mul_nonneg (mulself (c x)) (show 0 ≤ -d x by omega)
      rw [Int.mul_neg] at this
      exact this
    · by_cases hzx : z x = true
      · rw [hz x hx hzx]; simp
      · rw [e2 x hx hd (by simpa using hzx)]; simp
  have t1 : 0 ≤ sI n fun y => c (n + 1 + y) * c (n + 1 + y) * d' y := sI_nn nn
  have t2 := sI_n0 (n + 1) _ np (by rw [sI_neg]; omega)
  have c0 : ∀ x, x < n + 1 → z x = false → c x = 0 := fun x hx hzx => by
    by_cases hd : d x < 0
    · have := t2 x hx
      have h3 : c x * c x * d x = 0 := by omega
      rcases Int.mul_eq_zero.1 h3 with h | h
      · exact (Int.mul_eq_zero.1 h).elim id id
      · omega
    · exact e2 x hx hd hzx
  have c1 := hzi c c0 e0
  have c2 := hW.ind (fun y => c (n + 1 + y)) fun m hm => by
    rw [← e1 m hm]
    exact sI_all0 fun x hx => by rw [c1 x hx, Int.zero_mul]
  by_cases hxn : x < n + 1
  · exact hc (c1 x hxn)
  · have := c2 (x - (n + 1)) (by omega)
    rw [show n + 1 + (x - (n + 1)) = x by omega] at this
    exact hc this
/-- the sign of the determinant -/
theorem pI_sign : ∀ {n : Nat} {d : Nat → Int}, (∀ x, x < n → d x ≠ 0) → 0 < sg1 (cB n fun x => decide (d x < 0)) * pI n d
  | 0, _, _ => by show 0 < sg1 0 * 1; decide
  | n + 1, d, h => by
    have ih := pI_sign (n := n) (d := d) fun x hx => h x (by omega)
    have hn := h n (by omega)
    show 0 < sg1 (cB n (fun x => decide (d x < 0)) + if decide (d n < 0) = true then 1 else 0) * (pI n d * d n)
    generalize cB n (fun x => decide (d x < 0)) = v at *
    generalize pI n d = y at *
    generalize d n = x at *
    by_cases hx : x < 0
    · rw [if_pos (decide_eq_true hx), sg1_succ, show -sg1 v * (y * x) = sg1 v * y * -x by grind]
      exact Int.mul_pos ih (by omega)
    · rw [if_neg (by simpa using hx), Nat.add_zero, ← Int.mul_assoc]
      exact Int.mul_pos ih (by omega)
theorem fam_sign {n : Nat} {A V : Mx} {d : Nat → Int} (h : Fam n A V d n) (h0 : ∀ x, x < n → d x ≠ 0) : 0 < sg1 (cB n fun x => decide (d x < 0)) * det n A := by
  have e : det n (cgM n (fun a i => V i a) A) = pI n d := by
    rw [← det_dgg]
    refine det_congr fun i j hi hj => ?_
    show bil n A (V i) (V j) = _
    unfold dg
    by_cases e : i = j
    · subst e; rw [if_pos rfl, h.dg i hi]
    · rw [if_neg e, h.off i j hi hj e]
  have hs := pI_sign h0
  rw [← e, det_cgM] at hs
  generalize det n (fun a i => V i a) = v at hs
  generalize sg1 _ = x at hs ⊢
  rcases Int.lt_or_le 0 (x * det n A) with h | h
  · exact h
  · have := Int.mul_nonneg (mulself v) (show 0 ≤ -(x * det n A) by omega)
    rw [Int.mul_neg] at this
    have e2 : x * (v * v * det n A) = v * v * (x * det n A) := by grind
    omega
theorem eD_top (n : Nat) (A : Mx) (g : Nat → Int) : eD n g A n = det n A := by
  have h : ∀ (m r : Nat) (R : Nat → Nat), wS g A m r R (m + r) = mn A (m + r) (fun x => if x < m then x else R (x - m)) (fun x => if x < m then x else R (x - m)) := fun m => by
    induction m with
    | zero =>
      intro r R
      rw [Nat.zero_add]
      unfold wS
      rw [if_pos rfl]
      exact mn_congr (fun x _ => by rw [if_neg (Nat.not_lt_zero x)]; rfl) fun x _ => by rw [if_neg (Nat.not_lt_zero x)]; rfl
    | succ m ih =>
      intro r R
      have hz : ∀ (m r k : Nat) (R : Nat → Nat), m + r < k → wS g A m r R k = 0 := fun m => by
        induction m with
        | zero => intro r k R h; unfold wS; rw [if_neg (by omega)]
        | succ m ih => intro r k R h; unfold wS; rw [ih r k R (by omega), ih (r + 1) k _ (by omega), Int.mul_zero]; rfl
      unfold wS
      rw [hz m r _ R (by omega), Int.mul_zero, Int.zero_add, show m + 1 + r = m + (r + 1) by omega, ih]
      have e : ∀ x, (if x < m then x else cn m R (x - m)) = if x < m + 1 then x else R (x - (m + 1)) := fun x => by
        by_cases h1 : x < m
        · rw [if_pos h1, if_pos (by omega)]
        · rw [if_neg h1]
          by_cases h2 : x = m
          · subst h2; rw [if_pos (by omega), Nat.sub_self]; rfl
          · rw [if_neg (by omega)]
            obtain ⟨y, hy⟩ : ∃ y, x - m = y + 1 := ⟨x - m - 1, by omega⟩
            rw [hy, cn_succ]
            congr 1
            omega
      exact mn_congr (fun x _ => e x) fun x _ => e x
  rw [eD_wS n g A fun x => x]
  have := h n 0 fun x => x
  rw [Nat.add_zero] at this
  rw [this]
  exact det_congr fun i j hi hj => by dsimp only; rw [if_pos hi, if_pos hj]

/-! ### the rule -/
def one1 : Nat → Int := fun _ => 1
theorem des_q : ∀ (n : Nat) (A : Mx), Sym n A → ∀ p q, Inr n A p q → q ≤ chN (eD n one1 A) (n + 1)
  | 0, A, _, p, q, ⟨V, d, _, _, hq⟩ => by rw [← hq]; exact Nat.zero_le _
  | n + 1, A, hA, p, q, h => by
    have h' := h
    obtain ⟨V, d, hV, hp, hq⟩ := h
    have pos : ∀ m, 0 < eD m one1 A 0 := fun m => by rw [eD_zero]; exact pI_pos fun _ _ => Int.one_pos
    have one_sk : ∀ i, (fun x => one1 (sk i x)) = one1 := fun i => rfl
    -- the changes of a part
    have part : ∀ i, i < n + 1 → ∀ p' q', Inr n (fun x y => A (sk i x) (sk i y)) p' q' → q' ≤ chN (eD (n + 1) one1 A) (n + 2) := fun i hi p' q' hI => by
      have hS : Sym n fun x y => A (sk i x) (sk i y) := hA.sub fun l hl => sk_lt hl
      have ih := des_q n _ hS p' q' hI
      have hL := (lall n).at_ (g := one1) (fun _ _ => Int.one_pos) hA hi
      rw [one_sk] at hL
      obtain ⟨M, hM, hC, hM2⟩ := chn_part (pos (n + 1)) (by rw [eD_zero]; exact pI_pos fun _ _ => Int.one_pos) (fun k hk => (hL k).2 hk) n
      have h1 := hC.le (pos (n + 1))
      have h2 := chN_mono (eD (n + 1) one1 A) (show M + 1 ≤ n + 2 by omega)
      omega
    by_cases hz : ∃ x, x < n + 1 ∧ d x = 0
    · obtain ⟨x0, hx0, hd0⟩ := hz
      obtain ⟨i, hi, hVi⟩ : ∃ i, i < n + 1 ∧ V x0 i ≠ 0 := Classical.byContradiction fun hn => by
        have := hV.ind (fun x => if x = x0 then 1 else 0) (fun m hm => by
          rw [sI_one (k := x0) _ hx0 fun j _ hj => by rw [if_neg hj, Int.zero_mul], if_pos rfl, Int.one_mul]
          exact Classical.byContradiction fun h => hn ⟨m, hm, h⟩) x0 hx0
        rw [if_pos rfl] at this
        omega
      obtain ⟨p', q', hI⟩ := inr_ex (hA.sub (D := sk i) (m := n) fun l hl => sk_lt hl)
      have h1 := part i hi p' q' hI
      have h2 := inr_part hi hV hI (fun x => decide (x = x0)) (fun x _ h => by rw [of_decide_eq_true h]; exact hd0) fun c hc hs x hx => by
        by_cases e : x = x0
        · subst e
          rw [sI_one (k := x) _ hx fun j hj hne => by rw [hc j hj (decide_eq_false hne), Int.zero_mul]] at hs
          exact (Int.mul_eq_zero.1 hs).resolve_right hVi
        · exact hc x hx (decide_eq_false e)
      have h3 : cB (n + 1) (fun x => decide (d x < 0) || decide (x = x0)) = q + 1 := by
        rw [← hq]
        have := cB_bump (f := fun x => decide (d x < 0)) hx0 (by rw [decide_eq_false_iff_not, hd0]; omega)
        exact this
      show q ≤ chN _ (n + 2)
      omega
    · have hnz : ∀ x, x < n + 1 → d x ≠ 0 := fun x hx h => hz ⟨x, hx, h⟩
      obtain ⟨p', q', hI⟩ := inr_ex (hA.sub (D := sk 0) (m := n) fun l hl => sk_lt hl)
      have h1 := part 0 (by omega) p' q' hI
      have h2 := inr_part (by omega) hV hI (fun _ => false) (fun x _ h => by cases h) fun c hc _ x hx => hc x hx rfl
      rw [cB_congr (g := fun x => decide (d x < 0)) fun x _ => Bool.or_false _, hq] at h2
      have hs := fam_sign hV hnz
      rw [hq] at hs
      rcases Nat.lt_or_ge (chN (eD (n + 1) one1 A) (n + 2)) q with h3 | h3
      · have h4 : q = chN (eD (n + 1) one1 A) (n + 2) + 1 := by omega
        have h5 := chL_sign (pos (n + 1)) (n + 1)
        have h6 : eD (n + 1) one1 A (n + 1) ≠ 0 := by
          rw [eD_top]
          intro h; rw [h, Int.mul_zero] at hs; omega
        have h7 : chL (eD (n + 1) one1 A) (n + 1 + 1) = eD (n + 1) one1 A (n + 1) := if_neg h6
        rw [h7, eD_top] at h5
        rw [h4, sg1_succ] at hs
        rcases sg1_two (chN (eD (n + 1) one1 A) (n + 2)) with h | h <;> rw [h] at hs h5 <;> omega
      · exact h3
/-- the numbers are the changes of sign -/
theorem descartes {n : Nat} {A : Mx} {p q : Nat} (hA : Sym n A) (h : Inr n A p q) (h0 : ∀ k, p + q < k → eD n one1 A k = 0) :
    chN (eD n one1 A) (n + 1) = q ∧ chN (fun k => sg1 k * eD n one1 A k) (n + 1) = p := by
  have h1 := des_q n A hA p q h
  have h2 := des_q n (fun i j => -A i j) (fun i j hi hj => by show -A i j = -A j i; rw [hA i j hi hj]) q p (h.neg fun _ _ _ _ => rfl)
  have e : ∀ k, eD n one1 (fun i j => -A i j) k = sg1 k * eD n one1 A k := fun k => by
    have hw : ∀ (m r : Nat) (R : Nat → Nat), wS one1 (fun i j => -A i j) m r R k = sg1 k * wS one1 A m r R k := fun m => by
      induction m with
      | zero =>
        intro r R
        unfold wS
        by_cases e : k = r
        · subst e
          rw [if_pos rfl, if_pos rfl]
          have hd : ∀ (n : Nat) (M : Mx), det n (fun i j => -M i j) = sg1 n * det n M := fun n => by
            induction n with
            | zero => intro M; rfl
            | succ n ih =>
              intro M
              rw [det_succ, det_succ, ← sI_mul]
              refine sI_congr fun j _ => ?_
              rw [ih, sg1_succ]
              grind
          exact hd _ _
        · rw [if_neg e, if_neg e, Int.mul_zero]
      | succ m ih =>
        intro r R
        unfold wS
        rw [ih, ih, Int.mul_add]
        grind
    rw [eD_wS n _ _ fun x => x, eD_wS n _ _ fun x => x, hw]
  rw [(chN_congr e (n + 1)).1] at h2
  have pos : 0 < eD n one1 A 0 := by rw [eD_zero]; exact pI_pos fun _ _ => Int.one_pos
  obtain ⟨l, -, hl, -, -, -, h3⟩ := chN_both pos n
  have hlr : l ≤ p + q := Classical.byContradiction fun hn => hl (h0 l (by omega))
  omega
end Go.Proofs.Yteanhbldhaiekaa
