/-
  Determinants by expansion along the first row. No program here.
-/
import Derived.Test.YteanhbldhaiekaaZ01
namespace Go.Proofs.Yteanhbldhaiekaa

/-! ### sums -/
def sI : Nat → (Nat → Int) → Int
  | 0, _ => 0
  | n + 1, f => sI n f + f n
theorem sI_congr : ∀ {n : Nat} {f g : Nat → Int}, (∀ k, k < n → f k = g k) → sI n f = sI n g
  | 0, _, _, _ => rfl
  | n + 1, f, g, h => by show sI n f + f n = sI n g + g n; rw [sI_congr fun k hk => h k (by omega), h n (by omega)]
theorem sI_add : ∀ (n : Nat) (f g : Nat → Int), sI n (fun k => f k + g k) = sI n f + sI n g
  | 0, _, _ => rfl
  | n + 1, f, g => by show sI n _ + (f n + g n) = (sI n f + f n) + (sI n g + g n); rw [sI_add n f g]; omega
theorem sI_mul : ∀ (n : Nat) (t : Int) (f : Nat → Int), sI n (fun k => t * f k) = t * sI n f
  | 0, t, _ => (Int.mul_zero t).symm
  | n + 1, t, f => by show sI n _ + t * f n = t * (sI n f + f n); rw [sI_mul n t f, Int.mul_add]
theorem sI_neg (n : Nat) (f : Nat → Int) : sI n (fun k => -f k) = -sI n f := by
  have := sI_mul n (-1) f
  rw [show (-1 : Int) * sI n f = -sI n f by omega] at this
  rw [← this]
  exact sI_congr fun k _ => by omega
theorem sI_zero : ∀ (n : Nat), sI n (fun _ => 0) = 0
  | 0 => rfl
  | n + 1 => by show sI n _ + 0 = 0; rw [sI_zero n]; rfl
theorem sI_all0 {n : Nat} {f : Nat → Int} (h : ∀ k, k < n → f k = 0) : sI n f = 0 := by rw [sI_congr h, sI_zero]
theorem sI_succ' : ∀ (n : Nat) (f : Nat → Int), sI (n + 1) f = f 0 + sI n (fun k => f (k + 1))
  | 0, f => by show 0 + f 0 = f 0 + 0; omega
  | n + 1, f => by show sI (n + 1) f + f (n + 1) = f 0 + (sI n (fun k => f (k + 1)) + f (n + 1)); rw [sI_succ' n f]; omega
theorem sI_one : ∀ {n k : Nat} (f : Nat → Int), k < n → (∀ j, j < n → j ≠ k → f j = 0) → sI n f = f k
  | n + 1, k, f, hk, h => by
    show sI n f + f n = f k
    by_cases e : k = n
    · subst e
      rw [sI_all0 fun j hj => h j (by omega) (by omega)]; omega
    · rw [sI_one f (by omega) fun j hj hne => h j (by omega) hne, h n (by omega) (by omega)]; omega
theorem sI_two {n p q : Nat} (f : Nat → Int) (hp : p < n) (hq : q < n) (hpq : p ≠ q) (h : ∀ j, j < n → j ≠ p → j ≠ q → f j = 0) : sI n f = f p + f q := by
  have e : sI n f = sI n (fun j => (if j = p then f p else 0) + (if j = q then f q else 0)) := sI_congr fun j hj => by
    by_cases h1 : j = p
    · subst h1; rw [if_pos rfl, if_neg hpq]; omega
    · by_cases h2 : j = q
      · subst h2; rw [if_neg h1, if_pos rfl]; omega
      · rw [if_neg h1, if_neg h2, h j hj h1 h2]; rfl
  rw [e, sI_add, sI_one (k := p) _ hp (fun j _ hj => if_neg hj), sI_one (k := q) _ hq (fun j _ hj => if_neg hj), if_pos rfl, if_pos rfl]
theorem sI_swap : ∀ (n m : Nat) (f : Nat → Nat → Int), sI n (fun i => sI m (fun j => f i j)) = sI m (fun j => sI n (fun i => f i j))
  | 0, m, f => (sI_zero m).symm
  | n + 1, m, f => by show sI n _ + sI m _ = sI m (fun j => sI n (fun i => f i j) + f n j); rw [sI_add, sI_swap n m f]

/-! ### determinants -/
/-- the sign of a column -/
def sg1 (j : Nat) : Int := if j % 2 = 0 then 1 else -1
theorem sg1_succ (j : Nat) : sg1 (j + 1) = -sg1 j := by unfold sg1; split <;> split <;> omega
/-- the numbers without j -/
def sk (j k : Nat) : Nat := if k < j then k else k + 1
theorem sk_ne (j k : Nat) : sk j k ≠ j := by unfold sk; split <;> omega
theorem sk_lt {j k n : Nat} (hk : k < n) : sk j k < n + 1 := by unfold sk; split <;> omega
theorem sk_inj {j a b : Nat} (h : sk j a = sk j b) : a = b := by unfold sk at h; split at h <;> split at h <;> omega
theorem sk_zero (k : Nat) : sk 0 k = k + 1 := by unfold sk; rw [if_neg (by omega)]
theorem sk_surj {j k n : Nat} (hj : j < n + 1) (hk : k < n + 1) (h : k ≠ j) : ∃ l, l < n ∧ sk j l = k := by
  by_cases e : k < j
  · exact ⟨k, by omega, by unfold sk; rw [if_pos e]⟩
  · exact ⟨k - 1, by omega, by unfold sk; rw [if_neg (by omega)]; omega⟩
abbrev Mx := Nat → Nat → Int
def det : Nat → Mx → Int
  | 0, _ => 1
  | n + 1, A => sI (n + 1) fun j => sg1 j * A 0 j * det n fun i k => A (i + 1) (sk j k)
theorem det_succ (n : Nat) (A : Mx) : det (n + 1) A = sI (n + 1) fun j => sg1 j * A 0 j * det n fun i k => A (i + 1) (sk j k) := rfl
theorem det_congr : ∀ {n : Nat} {A B : Mx}, (∀ i j, i < n → j < n → A i j = B i j) → det n A = det n B
  | 0, _, _, _ => rfl
  | n + 1, A, B, h => by
    rw [det_succ, det_succ]
    refine sI_congr fun j hj => ?_
    rw [h 0 j (by omega) hj, det_congr fun i k hi hk => h (i + 1) (sk j k) (by omega) (sk_lt hk)]
/-- linear in a column -/
theorem det_col : ∀ {n : Nat} {A B C : Mx} {c : Nat} {t : Int}, c < n → (∀ i j, i < n → j < n → j ≠ c → B i j = A i j ∧ C i j = A i j) → (∀ i, i < n → C i c = A i c + t * B i c) → det n C = det n A + t * det n B
  | n + 1, A, B, C, c, t, hc, h, hC => by
    rw [det_succ, det_succ, det_succ, ← sI_mul, ← sI_add]
    refine sI_congr fun j hj => ?_
    by_cases e : j = c
    · subst e
      have e1 : det n (fun i k => C (i + 1) (sk j k)) = det n (fun i k => A (i + 1) (sk j k)) := det_congr fun i k hi hk => (h _ _ (by omega) (sk_lt hk) (sk_ne _ _)).2
      have e2 : det n (fun i k => B (i + 1) (sk j k)) = det n (fun i k => A (i + 1) (sk j k)) := det_congr fun i k hi hk => (h _ _ (by omega) (sk_lt hk) (sk_ne _ _)).1
      rw [e1, e2, hC 0 (by omega), Int.mul_add, Int.add_mul, ← Int.mul_assoc, ← Int.mul_assoc, ← Int.mul_assoc, Int.mul_comm (sg1 j) t]
    · obtain ⟨l, hl, e'⟩ := sk_surj (j := j) hj hc (fun e' => e e'.symm)
      rw [(h 0 j (by omega) hj e).1, (h 0 j (by omega) hj e).2,
        det_col (A := fun i k => A (i + 1) (sk j k)) (B := fun i k => B (i + 1) (sk j k)) (C := fun i k => C (i + 1) (sk j k)) (c := l) (t := t) hl
          (fun i k hi hk hne => h _ _ (by omega) (sk_lt hk) (fun e2 => hne (sk_inj (e2.trans e'.symm))))
          (fun i hi => by rw [e']; exact hC _ (by omega)), Int.mul_add, ← Int.mul_assoc, ← Int.mul_assoc, ← Int.mul_assoc, Int.mul_assoc, Int.mul_comm _ t, ← Int.mul_assoc, ← Int.mul_assoc]
/-- two equal neighbours -/
theorem det_adj : ∀ {n : Nat} {A : Mx} {c : Nat}, c + 1 < n → (∀ i, i < n → A i c = A i (c + 1)) → det n A = 0
  | n + 1, A, c, hc, h => by
    rw [det_succ, sI_two (p := c) (q := c + 1) _ (by omega) hc (by omega) (fun j hj h1 h2 => ?_)]
    · have e : det n (fun i k => A (i + 1) (sk c k)) = det n (fun i k => A (i + 1) (sk (c + 1) k)) := det_congr fun i k hi hk => by
        by_cases e : k = c
        · subst e
          rw [show sk k k = k + 1 by unfold sk; rw [if_neg (by omega)], show sk (k + 1) k = k by unfold sk; rw [if_pos (by omega)]]
          exact (h _ (by omega)).symm
        · congr 1
          unfold sk
          split <;> split <;> omega
      rw [e, h 0 (by omega), sg1_succ, Int.neg_mul, Int.neg_mul]
      omega
    · have : det n (fun i k => A (i + 1) (sk j k)) = 0 := by
        by_cases hlt : j < c
        · refine det_adj (c := c - 1) (by omega) fun i hi => ?_
          rw [show sk j (c - 1) = c by unfold sk; rw [if_neg (by omega)]; omega, show sk j (c - 1 + 1) = c + 1 by unfold sk; rw [if_neg (by omega)]; omega]
          exact h _ (by omega)
        · refine det_adj (c := c) (by omega) fun i hi => ?_
          rw [show sk j c = c by unfold sk; rw [if_pos (by omega)], show sk j (c + 1) = c + 1 by unfold sk; rw [if_pos (by omega)]]
          exact h _ (by omega)
      rw [this, Int.mul_zero]
/-- a column put in another one's place -/
def cset (A : Mx) (c : Nat) (f : Nat → Int) : Mx := fun i j => if j = c then f i else A i j
/-- exchange of two numbers -/
def swn (p q k : Nat) : Nat := if k = p then q else if k = q then p else k
theorem swn_l (p q : Nat) : swn p q p = q := by unfold swn; rw [if_pos rfl]
theorem swn_r (p q : Nat) : swn p q q = p := by unfold swn; by_cases h : q = p <;> simp [h]
theorem swn_o {p q k : Nat} (h1 : k ≠ p) (h2 : k ≠ q) : swn p q k = k := by unfold swn; rw [if_neg h1, if_neg h2]
theorem swn_swn (p q k : Nat) : swn p q (swn p q k) = k := by
  by_cases h1 : k = p
  · subst h1; rw [swn_l, swn_r]
  · by_cases h2 : k = q
    · subst h2; rw [swn_r, swn_l]
    · rw [swn_o h1 h2, swn_o h1 h2]
theorem swn_lt {p q k n : Nat} (hp : p < n) (hq : q < n) (hk : k < n) : swn p q k < n := by
  unfold swn
  split
  · exact hq
  · split <;> assumption
theorem det_cswap_of {n : Nat} {A : Mx} {p q : Nat} (hp : p < n) (hq : q < n) (hne : p ≠ q) (same : ∀ x : Nat → Int, det n (cset (cset A p x) q x) = 0) : det n (fun i j => A i (swn p q j)) = -det n A := by
  have key : ∀ f g : Nat → Int, det n (cset (cset A p f) q g) + det n (cset (cset A p g) q f) = 0 := by
    intro f g
    have add2 : ∀ (x y z : Nat → Int), det n (cset (cset A p x) q (fun i => y i + z i)) = det n (cset (cset A p x) q y) + det n (cset (cset A p x) q z) := by
      intro x y z
      have := det_col (n := n) (A := cset (cset A p x) q y) (B := cset (cset A p x) q z) (C := cset (cset A p x) q (fun i => y i + z i)) (c := q) (t := 1) hq
        (fun i j _ _ hne => ⟨by unfold cset; rw [if_neg hne, if_neg hne], by unfold cset; rw [if_neg hne, if_neg hne]⟩) (fun i _ => by unfold cset; simp)
      rw [this]; omega
    have add1 : ∀ (x y z : Nat → Int), det n (cset (cset A p (fun i => x i + y i)) q z) = det n (cset (cset A p x) q z) + det n (cset (cset A p y) q z) := by
      intro x y z
      have := det_col (n := n) (A := cset (cset A p x) q z) (B := cset (cset A p y) q z) (C := cset (cset A p (fun i => x i + y i)) q z) (c := p) (t := 1) hp
        (fun i j _ _ hne => ⟨by unfold cset; by_cases e : j = q <;> simp [e, hne], by unfold cset; by_cases e : j = q <;> simp [e, hne]⟩) (fun i _ => by unfold cset; simp [hne])
      rw [this]; omega
    have h := same (fun i => f i + g i)
    rw [add2, add1, add1, same, same] at h
    omega
  have h := key (fun i => A i q) (fun i => A i p)
  have e1 : det n (cset (cset A p fun i => A i q) q fun i => A i p) = det n (fun i j => A i (swn p q j)) := det_congr fun i j _ _ => by
    unfold cset
    by_cases h1 : j = q
    · subst h1; rw [if_pos rfl, swn_r]
    · by_cases h2 : j = p
      · subst h2; rw [if_neg h1, if_pos rfl, swn_l]
      · rw [if_neg h1, if_neg h2, swn_o h2 h1]
  have e2 : det n (cset (cset A p fun i => A i p) q fun i => A i q) = det n A := det_congr fun i j _ _ => by
    unfold cset
    by_cases h1 : j = q
    · subst h1; rw [if_pos rfl]
    · by_cases h2 : j = p
      · subst h2; rw [if_neg h1, if_pos rfl]
      · rw [if_neg h1, if_neg h2]
  rw [e1, e2] at h
  omega
theorem det_cswap_adj {n : Nat} {A : Mx} {c : Nat} (hc : c + 1 < n) : det n (fun i j => A i (swn c (c + 1) j)) = -det n A :=
  det_cswap_of (by omega) hc (by omega) fun x => det_adj (c := c) hc fun i _ => by unfold cset; simp
/-- two equal columns -/
theorem det_ceq : ∀ (d : Nat) {n : Nat} {A : Mx} {c : Nat}, c + d + 1 < n → (∀ i, i < n → A i c = A i (c + d + 1)) → det n A = 0
  | 0, n, A, c, hc, h => det_adj hc h
  | d + 1, n, A, c, hc, h => by
    have h1 := det_cswap_adj (A := A) (c := c + d + 1) hc
    rw [det_ceq d (n := n) (A := fun i j => A i (swn (c + d + 1) (c + d + 1 + 1) j)) (c := c) (by omega) (fun i hi => by
      show A i (swn (c + d + 1) (c + d + 1 + 1) c) = A i (swn (c + d + 1) (c + d + 1 + 1) (c + d + 1))
      rw [swn_o (by omega) (by omega), swn_l]; exact h i hi)] at h1
    omega
theorem det_cols {n : Nat} {A : Mx} {c d : Nat} (hc : c < n) (hd : d < n) (hne : c ≠ d) (h : ∀ i, i < n → A i c = A i d) : det n A = 0 := by
  rcases Nat.lt_or_gt_of_ne hne with hlt | hlt
  · exact det_ceq (d - c - 1) (c := c) (by omega) (fun i hi => by rw [show c + (d - c - 1) + 1 = d by omega]; exact h i hi)
  · exact det_ceq (c - d - 1) (c := d) (by omega) (fun i hi => by rw [show d + (c - d - 1) + 1 = c by omega]; exact (h i hi).symm)
/-- expansion along the first column -/
theorem det_left : ∀ (n : Nat) (A : Mx), det (n + 1) A = sI (n + 1) fun i => sg1 i * A i 0 * det n fun k l => A (sk i k) (l + 1)
  | 0, A => by
    show 0 + sg1 0 * A 0 0 * 1 = 0 + sg1 0 * A 0 0 * 1
    rfl
  | n + 1, A => by
    rw [det_succ, sI_succ' (n + 1) (fun j => sg1 j * A 0 j * det (n + 1) fun i k => A (i + 1) (sk j k)), sI_succ' (n + 1) (fun i => sg1 i * A i 0 * det (n + 1) fun k l => A (sk i k) (l + 1))]
    have e0 : det (n + 1) (fun i k => A (i + 1) (sk 0 k)) = det (n + 1) (fun k l => A (sk 0 k) (l + 1)) := det_congr fun i j _ _ => by rw [sk_zero, sk_zero]
    rw [e0]
    congr 1
    have hl : ∀ j, j < n + 1 → sg1 (j + 1) * A 0 (j + 1) * det (n + 1) (fun i k => A (i + 1) (sk (j + 1) k)) = sI (n + 1) fun i => sg1 (j + 1) * A 0 (j + 1) * (sg1 i * A (i + 1) 0 * det n fun k l => A (sk i k + 1) (sk j l + 1)) := by
      intro j hj
      rw [det_left n, ← sI_mul]
      refine sI_congr fun i hi => ?_
      congr 2
      refine det_congr fun k l hk hl => ?_
      congr 1
      unfold sk
      split <;> split <;> omega
    have hr : ∀ i, i < n + 1 → sg1 (i + 1) * A (i + 1) 0 * det (n + 1) (fun k l => A (sk (i + 1) k) (l + 1)) = sI (n + 1) fun j => sg1 (i + 1) * A (i + 1) 0 * (sg1 j * A 0 (j + 1) * det n fun k l => A (sk i k + 1) (sk j l + 1)) := by
      intro i hi
      rw [det_succ, ← sI_mul]
      refine sI_congr fun j hj => ?_
      rw [show sk (i + 1) 0 = 0 by unfold sk; rw [if_pos (by omega)]]
      congr 2
      refine det_congr fun k l hk hl => ?_
      congr 1
      unfold sk
      split <;> split <;> omega
    rw [sI_congr hl, sI_congr hr, sI_swap]
    refine sI_congr fun i hi => sI_congr fun j hj => ?_
    rw [sg1_succ, sg1_succ]
    generalize det n _ = D
    generalize A 0 (j + 1) = x
    generalize A (i + 1) 0 = y
    generalize sg1 i = s
    generalize sg1 j = t
    simp only [Int.neg_mul]
    congr 1
    rw [show t * x * (s * y * D) = (t * x * (s * y)) * D from (Int.mul_assoc _ _ _).symm, show s * y * (t * x * D) = (s * y * (t * x)) * D from (Int.mul_assoc _ _ _).symm, Int.mul_comm (t * x) (s * y)]
theorem det_tr : ∀ (n : Nat) (A : Mx), det n (fun i j => A j i) = det n A
  | 0, _ => rfl
  | n + 1, A => by
    rw [det_succ, det_left]
    refine sI_congr fun j _ => ?_
    rw [det_tr n fun k l => A (sk j k) (l + 1)]
/-- linear in a row -/
theorem det_row {n : Nat} {A B C : Mx} {r : Nat} {t : Int} (hr : r < n) (h : ∀ i j, i < n → j < n → i ≠ r → B i j = A i j ∧ C i j = A i j) (hC : ∀ j, j < n → C r j = A r j + t * B r j) : det n C = det n A + t * det n B := by
  rw [← det_tr n A, ← det_tr n B, ← det_tr n C]
  exact det_col hr (fun i j hi hj hne => h j i hj hi hne) hC
theorem det_rows {n : Nat} {A : Mx} {c d : Nat} (hc : c < n) (hd : d < n) (hne : c ≠ d) (h : ∀ j, j < n → A c j = A d j) : det n A = 0 := by
  rw [← det_tr n A]
  exact det_cols hc hd hne h
/-- a multiple of a column is added to another one -/
theorem det_cadd {n : Nat} {A : Mx} {r s : Nat} {t : Int} (hr : r < n) (hs : s < n) (hne : r ≠ s) : det n (fun i j => if j = r then A i j + t * A i s else A i j) = det n A := by
  rw [det_col (A := A) (B := cset A r fun i => A i s) (c := r) (t := t) hr (fun i j _ _ hj => ⟨by unfold cset; rw [if_neg hj], by rw [if_neg hj]⟩) (fun i _ => by unfold cset; rw [if_pos rfl, if_pos rfl]),
    det_cols (A := cset A r fun i => A i s) hr hs hne (fun i _ => by unfold cset; rw [if_pos rfl, if_neg (fun e => hne e.symm)])]
  omega
theorem det_radd {n : Nat} {A : Mx} {r s : Nat} {t : Int} (hr : r < n) (hs : s < n) (hne : r ≠ s) : det n (fun i j => if i = r then A i j + t * A s j else A i j) = det n A := by
  rw [← det_tr n A, ← det_tr]
  exact det_cadd (A := fun i j => A j i) hr hs hne
/-- an exchange of columns -/
theorem det_cswap {n : Nat} {A : Mx} {p q : Nat} (hp : p < n) (hq : q < n) (hne : p ≠ q) : det n (fun i j => A i (swn p q j)) = -det n A :=
  det_cswap_of hp hq hne fun x => det_cols hp hq hne fun i _ => by unfold cset; simp [hne]
theorem det_rswap {n : Nat} {A : Mx} {p q : Nat} (hp : p < n) (hq : q < n) (hne : p ≠ q) : det n (fun i j => A (swn p q i) j) = -det n A := by
  rw [← det_tr n A, ← det_tr]
  exact det_cswap (A := fun i j => A j i) hp hq hne
/-- a zero column; a column times a number -/
theorem det_c0 {n : Nat} {A : Mx} {c : Nat} (hc : c < n) (h : ∀ i, i < n → A i c = 0) : det n A = 0 := by
  have := det_col (n := n) (A := A) (B := A) (C := A) (c := c) (t := 1) hc (fun _ _ _ _ _ => ⟨rfl, rfl⟩) (fun i hi => by rw [h i hi]; rfl)
  omega
theorem det_cmul {n : Nat} {A B : Mx} {c : Nat} {t : Int} (hc : c < n) (h : ∀ i j, i < n → j < n → j ≠ c → B i j = A i j) (hC : ∀ i, i < n → B i c = t * A i c) : det n B = t * det n A := by
  rw [det_col (A := cset A c fun _ => 0) (B := A) (C := B) (c := c) (t := t) hc (fun i j hi hj hne => ⟨by unfold cset; rw [if_neg hne], by unfold cset; rw [if_neg hne]; exact h i j hi hj hne⟩) (fun i hi => by unfold cset; rw [if_pos rfl, hC i hi]; exact (Int.zero_add _).symm),
    det_c0 (A := cset A c fun _ => 0) hc (fun i _ => by unfold cset; rw [if_pos rfl])]
  omega
theorem det_rmul {n : Nat} {A B : Mx} {r : Nat} {t : Int} (hr : r < n) (h : ∀ i j, i < n → j < n → i ≠ r → B i j = A i j) (hC : ∀ j, j < n → B r j = t * A r j) : det n B = t * det n A := by
  rw [← det_tr n A, ← det_tr n B]
  exact det_cmul hr (fun i j hi hj hne => h j i hj hi hne) hC
theorem det_r0 {n : Nat} {A : Mx} {r : Nat} (hr : r < n) (h : ∀ j, j < n → A r j = 0) : det n A = 0 := by
  rw [← det_tr n A]
  exact det_c0 hr h
/-- products -/
def pI : Nat → (Nat → Int) → Int
  | 0, _ => 1
  | n + 1, f => pI n f * f n
theorem pI_congr : ∀ {n : Nat} {f g : Nat → Int}, (∀ k, k < n → f k = g k) → pI n f = pI n g
  | 0, _, _, _ => rfl
  | n + 1, f, g, h => by show pI n f * f n = pI n g * g n; rw [pI_congr fun k hk => h k (by omega), h n (by omega)]
theorem pI_succ' : ∀ (n : Nat) (f : Nat → Int), pI (n + 1) f = f 0 * pI n (fun k => f (k + 1))
  | 0, f => by show 1 * f 0 = f 0 * 1; rw [Int.one_mul, Int.mul_one]
  | n + 1, f => by show pI (n + 1) f * f (n + 1) = f 0 * (pI n (fun k => f (k + 1)) * f (n + 1)); rw [pI_succ' n f, Int.mul_assoc]
/-- an upper triangle -/
theorem det_upper : ∀ {n : Nat} {A : Mx}, (∀ i j, i < n → j < i → A i j = 0) → det n A = pI n fun i => A i i
  | 0, _, _ => rfl
  | n + 1, A, h => by
    rw [det_left, sI_one (k := 0) _ (by omega) (fun i hi hne => by rw [h i 0 hi (by omega), Int.mul_zero, Int.zero_mul]), pI_succ',
      det_upper (A := fun k l => A (sk 0 k) (l + 1)) (fun i j hi hj => by show A (sk 0 i) (j + 1) = 0; rw [sk_zero]; exact h _ _ (by omega) (by omega))]
    rw [show sg1 0 = 1 from rfl, Int.one_mul]
    congr 1
end Go.Proofs.Yteanhbldhaiekaa
