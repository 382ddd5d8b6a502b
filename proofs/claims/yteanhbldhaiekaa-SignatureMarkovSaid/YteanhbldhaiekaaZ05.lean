/-
  Matrices of integers up to steps on rows and columns; each one is equivalent to a diagonal one whose elements divide each other. No program here.
-/
import Derived.Test.YteanhbldhaiekaaZ04
namespace Go.Proofs.Yteanhbldhaiekaa

inductive Eqv (n c : Nat) : Mx → Mx → Prop
  | refl (A : Mx) : Eqv n c A A
  | cong {A B C : Mx} : Eqv n c A B → (∀ i j, i < n → j < c → C i j = B i j) → Eqv n c A C
  | radd {A B : Mx} (r s : Nat) (t : Int) : r < n → s < n → r ≠ s → Eqv n c A B → Eqv n c A (fun i j => if i = r then B i j + t * B s j else B i j)
  | cadd {A B : Mx} (r s : Nat) (t : Int) : r < c → s < c → r ≠ s → Eqv n c A B → Eqv n c A (fun i j => if j = r then B i j + t * B i s else B i j)
  | rsw {A B : Mx} (r s : Nat) : r < n → s < n → r ≠ s → Eqv n c A B → Eqv n c A (fun i j => B (swn r s i) j)
  | csw {A B : Mx} (r s : Nat) : r < c → s < c → r ≠ s → Eqv n c A B → Eqv n c A (fun i j => B i (swn r s j))
  | rneg {A B : Mx} (r : Nat) : r < n → Eqv n c A B → Eqv n c A (fun i j => if i = r then -B i j else B i j)
  | cneg {A B : Mx} (r : Nat) : r < c → Eqv n c A B → Eqv n c A (fun i j => if j = r then -B i j else B i j)

section
variable {n c : Nat} {A B C : Mx}
theorem Eqv.trans (h : Eqv n c A B) (h2 : Eqv n c B C) : Eqv n c A C := by
  induction h2 with
  | refl => exact h
  | cong _ hc ih => exact .cong ih hc
  | radd r s t h1 h2 h3 _ ih => exact .radd r s t h1 h2 h3 ih
  | cadd r s t h1 h2 h3 _ ih => exact .cadd r s t h1 h2 h3 ih
  | rsw r s h1 h2 h3 _ ih => exact .rsw r s h1 h2 h3 ih
  | csw r s h1 h2 h3 _ ih => exact .csw r s h1 h2 h3 ih
  | rneg r h1 _ ih => exact .rneg r h1 ih
  | cneg r h1 _ ih => exact .cneg r h1 ih
theorem Eqv.of (h : ∀ i j, i < n → j < c → B i j = A i j) : Eqv n c A B := .cong (.refl A) h
theorem Eqv.symm (h : Eqv n c A B) : Eqv n c B A := by
  induction h with
  | refl => exact .refl _
  | cong _ hc ih => exact Eqv.trans (.of fun i j hi hj => (hc i j hi hj).symm) ih
  | @radd B r s t h1 h2 h3 _ ih =>
    refine Eqv.trans (.cong (.radd r s (-t) h1 h2 h3 (.refl _)) fun i j _ _ => ?_) ih
    by_cases e : i = r
    · subst e
      rw [if_pos rfl, if_pos rfl, if_neg (Ne.symm h3), Int.neg_mul]; omega
    · rw [if_neg e, if_neg e]
  | @cadd B r s t h1 h2 h3 _ ih =>
    refine Eqv.trans (.cong (.cadd r s (-t) h1 h2 h3 (.refl _)) fun i j _ _ => ?_) ih
    by_cases e : j = r
    · subst e
      rw [if_pos rfl, if_pos rfl, if_neg (Ne.symm h3), Int.neg_mul]; omega
    · rw [if_neg e, if_neg e]
  | rsw r s h1 h2 h3 _ ih => exact Eqv.trans (.cong (.rsw r s h1 h2 h3 (.refl _)) fun i j _ _ => by rw [swn_swn]) ih
  | csw r s h1 h2 h3 _ ih => exact Eqv.trans (.cong (.csw r s h1 h2 h3 (.refl _)) fun i j _ _ => by rw [swn_swn]) ih
  | rneg r h1 _ ih =>
    refine Eqv.trans (.cong (.rneg r h1 (.refl _)) fun i j _ _ => ?_) ih
    by_cases e : i = r
    · rw [if_pos e, if_pos e]; omega
    · rw [if_neg e, if_neg e]
  | cneg r h1 _ ih =>
    refine Eqv.trans (.cong (.cneg r h1 (.refl _)) fun i j _ _ => ?_) ih
    by_cases e : j = r
    · rw [if_pos e, if_pos e]; omega
    · rw [if_neg e, if_neg e]
/-- of the transposed matrices -/
theorem Eqv.tr (h : Eqv n c A B) : Eqv c n (fun i j => A j i) (fun i j => B j i) := by
  induction h with
  | refl => exact .refl _
  | cong _ hc ih => exact .cong ih fun i j hi hj => hc j i hj hi
  | radd r s t h1 h2 h3 _ ih => exact .cadd r s t h1 h2 h3 ih
  | cadd r s t h1 h2 h3 _ ih => exact .radd r s t h1 h2 h3 ih
  | rsw r s h1 h2 h3 _ ih => exact .csw r s h1 h2 h3 ih
  | csw r s h1 h2 h3 _ ih => exact .rsw r s h1 h2 h3 ih
  | rneg r h1 _ ih => exact .cneg r h1 ih
  | cneg r h1 _ ih => exact .rneg r h1 ih
/-- what divides all elements -/
theorem Eqv.dvd (h : Eqv n c A B) {g : Int} (hg : ∀ i j, i < n → j < c → g ∣ A i j) : ∀ i j, i < n → j < c → g ∣ B i j := by
  induction h with
  | refl => exact hg
  | cong _ hc ih => exact fun i j hi hj => by rw [hc i j hi hj]; exact ih i j hi hj
  | radd r s t h1 h2 h3 _ ih =>
    intro i j hi hj
    dsimp only
    split
    · exact Int.dvd_add (ih i j hi hj) (Int.dvd_mul_of_dvd_right (ih s j h2 hj))
    · exact ih i j hi hj
  | cadd r s t h1 h2 h3 _ ih =>
    intro i j hi hj
    dsimp only
    split
    · exact Int.dvd_add (ih i j hi hj) (Int.dvd_mul_of_dvd_right (ih i s hi h2))
    · exact ih i j hi hj
  | rsw r s h1 h2 h3 _ ih => exact fun i j hi hj => ih _ j (swn_lt h1 h2 hi) hj
  | csw r s h1 h2 h3 _ ih => exact fun i j hi hj => ih i _ hi (swn_lt h1 h2 hj)
  | rneg r h1 _ ih =>
    intro i j hi hj
    dsimp only
    split
    · exact Int.dvd_neg.2 (ih i j hi hj)
    · exact ih i j hi hj
  | cneg r h1 _ ih =>
    intro i j hi hj
    dsimp only
    split
    · exact Int.dvd_neg.2 (ih i j hi hj)
    · exact ih i j hi hj
/-- multiples of one row are added to the others -/
theorem Eqv.raddAll (A : Mx) (p : Nat) (hp : p < n) (q : Nat → Int) : ∀ k, k ≤ n → Eqv n c A (fun i j => if i < k ∧ i ≠ p then A i j + q i * A p j else A i j)
  | 0, _ => .of fun i j _ _ => by rw [if_neg (by omega)]
  | k + 1, hk => by
    have ih := Eqv.raddAll A p hp q k (by omega)
    by_cases e : k = p
    · subst e
      exact .cong ih fun i j _ _ => by
        by_cases h : i < k ∧ i ≠ k
        · rw [if_pos h, if_pos ⟨by omega, h.2⟩]
        · rw [if_neg h, if_neg (by omega)]
    · refine .cong (.radd k p (q k) (by omega) hp e ih) fun i j _ _ => ?_
      by_cases h : i = k
      · subst h
        simp only [if_true, Nat.lt_irrefl, false_and, if_false]
        rw [if_pos ⟨by omega, e⟩, if_neg (by omega)]
      · rw [if_neg h]
        by_cases h2 : i < k ∧ i ≠ p
        · rw [if_pos h2, if_pos ⟨by omega, h2.2⟩]
        · rw [if_neg h2, if_neg (by omega)]
theorem Eqv.caddAll (A : Mx) (p : Nat) (hp : p < c) (q : Nat → Int) : Eqv n c A (fun i j => if j ≠ p then A i j + q j * A i p else A i j) := by
  have h := (Eqv.raddAll (n := c) (c := n) (fun i j => A j i) p hp q c (Nat.le_refl _)).tr
  refine .cong h fun i j hi hj => ?_
  by_cases e : j = p
  · rw [if_neg (by omega), if_neg (by omega)]
  · rw [if_pos e, if_pos ⟨hj, e⟩]
end

/-! ### the diagonal form -/
/-- one row and one column more, with d where they meet -/
def bord (d : Int) (X : Mx) : Mx := fun i j => if i = 0 then (if j = 0 then d else 0) else if j = 0 then 0 else X (i - 1) (j - 1)
theorem bord_0 (d : Int) (X : Mx) : bord d X 0 0 = d := rfl
theorem bord_r (d : Int) (X : Mx) (j : Nat) : bord d X 0 (j + 1) = 0 := rfl
theorem bord_c (d : Int) (X : Mx) (i : Nat) : bord d X (i + 1) 0 = 0 := rfl
theorem bord_s (d : Int) (X : Mx) (i j : Nat) : bord d X (i + 1) (j + 1) = X i j := rfl
theorem swn_up (r s i : Nat) : swn (r + 1) (s + 1) (i + 1) = swn r s i + 1 := by
  unfold swn
  by_cases h1 : i = r
  · subst h1; simp
  · by_cases h2 : i = s
    · subst h2; simp [h1]
    · simp [h1, h2]
theorem Eqv.bord {n c : Nat} {X Y : Mx} (d : Int) (h : Eqv n c X Y) : Eqv (n + 1) (c + 1) (bord d X) (bord d Y) := by
  induction h with
  | refl => exact .refl _
  | cong _ hc ih =>
    refine .cong ih fun i j hi hj => ?_
    rcases i with _ | i <;> rcases j with _ | j
    · rfl
    · rfl
    · rfl
    · exact hc i j (by omega) (by omega)
  | radd r s t h1 h2 h3 _ ih =>
    refine .cong (.radd (r + 1) (s + 1) t (by omega) (by omega) (by omega) ih) fun i j _ _ => ?_
    rcases i with _ | i <;> rcases j with _ | j
    · rw [if_neg (by omega)]; rfl
    · rw [if_neg (by omega)]; rfl
    · rw [bord_c, bord_c, bord_c]; simp
    · rw [bord_s, bord_s, bord_s]; simp
  | cadd r s t h1 h2 h3 _ ih =>
    refine .cong (.cadd (r + 1) (s + 1) t (by omega) (by omega) (by omega) ih) fun i j _ _ => ?_
    rcases i with _ | i <;> rcases j with _ | j
    · rw [if_neg (by omega)]; rfl
    · rw [bord_r, bord_r, bord_r]; simp
    · rw [if_neg (by omega)]; rfl
    · rw [bord_s, bord_s, bord_s]; simp
  | rsw r s h1 h2 h3 _ ih =>
    refine .cong (.rsw (r + 1) (s + 1) (by omega) (by omega) (by omega) ih) fun i j _ _ => ?_
    rcases i with _ | i <;> rcases j with _ | j
    · rw [swn_o (by omega) (by omega)]; rfl
    · rw [swn_o (by omega) (by omega)]; rfl
    · rw [swn_up]; rfl
    · rw [swn_up]; rfl
  | csw r s h1 h2 h3 _ ih =>
    refine .cong (.csw (r + 1) (s + 1) (by omega) (by omega) (by omega) ih) fun i j _ _ => ?_
    rcases i with _ | i <;> rcases j with _ | j
    · rw [swn_o (by omega) (by omega)]; rfl
    · rw [swn_up]; rfl
    · rw [swn_o (by omega) (by omega)]; rfl
    · rw [swn_up]; rfl
  | rneg r h1 _ ih =>
    refine .cong (.rneg (r + 1) (by omega) ih) fun i j _ _ => ?_
    rcases i with _ | i <;> rcases j with _ | j
    · rw [if_neg (by omega)]; rfl
    · rw [if_neg (by omega)]; rfl
    · rw [bord_c, bord_c]; simp
    · rw [bord_s, bord_s]; simp
  | cneg r h1 _ ih =>
    refine .cong (.cneg (r + 1) (by omega) ih) fun i j _ _ => ?_
    rcases i with _ | i <;> rcases j with _ | j
    · rw [if_neg (by omega)]; rfl
    · rw [bord_r, bord_r]; simp
    · rw [if_neg (by omega)]; rfl
    · rw [bord_s, bord_s]; simp
/-- the diagonal matrix -/
def dgM (d : Nat → Nat) : Mx := fun i j => if i = j then (d i : Int) else 0
/-- each divides the next one, below m -/
def Chain (d : Nat → Nat) (m : Nat) : Prop := ∀ i, i + 1 < m → d i ∣ d (i + 1)

theorem least_nat {P : Nat → Prop} {n : Nat} (h : P n) : ∃ m, P m ∧ ∀ k, P k → m ≤ k := by
  induction n using Nat.strongRecOn with
  | _ n ih =>
    by_cases hex : ∃ k, k < n ∧ P k
    · obtain ⟨k, hk, hp⟩ := hex
      exact ih k hk hp
    · refine ⟨n, h, fun k hk => ?_⟩
      rcases Nat.lt_or_ge k n with hlt | hge
      · exact absurd ⟨k, hlt, hk⟩ hex
      · exact hge

/-- a corner that divides all -/
theorem corner {n c : Nat} (A : Mx) : ∃ (d : Nat) (X : Mx), Eqv (n + 1) (c + 1) A (bord d X) ∧ ∀ i j, i < n → j < c → (d : Int) ∣ X i j := by
  by_cases h0 : ∀ i j, i < n + 1 → j < c + 1 → A i j = 0
  · refine ⟨0, fun _ _ => 0, .of fun i j hi hj => ?_, fun i j _ _ => Int.dvd_refl _⟩
    rw [h0 i j hi hj]
    unfold bord
    split
    · split <;> rfl
    · split <;> rfl
  have h1 : ∃ i j, i < n + 1 ∧ j < c + 1 ∧ A i j ≠ 0 := by
    apply Classical.byContradiction
    intro hno
    refine h0 fun i j hi hj => ?_
    apply Classical.byContradiction
    exact fun hne => hno ⟨i, j, hi, hj, hne⟩
  obtain ⟨i0, j0, hi0, hj0, hne⟩ := h1
  obtain ⟨m, ⟨B, i1, j1, hB, hi1, hj1, hm1, hm2⟩, hmin⟩ := least_nat (P := fun m => ∃ B i j, Eqv (n + 1) (c + 1) A B ∧ i < n + 1 ∧ j < c + 1 ∧ B i j ≠ 0 ∧ (B i j).natAbs = m) ⟨A, i0, j0, .refl A, hi0, hj0, hne, rfl⟩
  have hmpos : 0 < m := by omega
  -- the least element into the corner
  obtain ⟨B1, hB1, e1⟩ : ∃ B1, Eqv (n + 1) (c + 1) A B1 ∧ B1 0 j1 = B i1 j1 := by
    by_cases e : i1 = 0
    · subst e; exact ⟨B, hB, rfl⟩
    · exact ⟨_, .rsw i1 0 hi1 (by omega) e hB, by rw [swn_r]⟩
  obtain ⟨B2, hB2, e2⟩ : ∃ B2, Eqv (n + 1) (c + 1) A B2 ∧ B2 0 0 = B i1 j1 := by
    by_cases e : j1 = 0
    · subst e; exact ⟨B1, hB1, e1⟩
    · exact ⟨_, .csw j1 0 hj1 (by omega) e hB1, by rw [swn_r]; exact e1⟩
  obtain ⟨D, hD, eD⟩ : ∃ D, Eqv (n + 1) (c + 1) A D ∧ D 0 0 = (m : Int) := by
    rcases Int.lt_or_le (B2 0 0) 0 with hneg | hpos
    · exact ⟨_, .rneg 0 (by omega) hB2, by rw [if_pos rfl]; omega⟩
    · exact ⟨B2, hB2, by omega⟩
  have hmn : ∀ (E : Mx) i j v, Eqv (n + 1) (c + 1) A E → i < n + 1 → j < c + 1 → E i j = v → v ≠ 0 → m ≤ v.natAbs := fun E i j v hE hi hj hv hz => hmin _ ⟨E, i, j, hE, hi, hj, by rw [hv]; exact hz, by rw [hv]⟩
  -- the first column and the first row are multiples of it
  have hc0 : ∀ i, i < n + 1 → D i 0 % (m : Int) = 0 := by
    intro i hi
    by_cases e : i = 0
    · subst e; rw [eD]; exact Int.emod_self
    apply Classical.byContradiction
    intro hz
    have hE := Eqv.radd i 0 (-(D i 0 / (m : Int))) hi (by omega) e hD
    have hv : (fun i' j => if i' = i then D i' j + -(D i 0 / (m : Int)) * D 0 j else D i' j) i 0 = D i 0 % (m : Int) := by
      show (if i = i then D i 0 + -(D i 0 / (m : Int)) * D 0 0 else D i 0) = _
      rw [if_pos rfl, eD, Int.emod_def, Int.neg_mul, Int.mul_comm (m : Int)]; omega
    have := hmn _ i 0 _ hE hi (by omega) hv hz
    have h1 := Int.emod_lt_of_pos (D i 0) (show (0 : Int) < m by omega)
    have h2 := Int.emod_nonneg (D i 0) (show (m : Int) ≠ 0 by omega)
    omega
  have hr0 : ∀ j, j < c + 1 → D 0 j % (m : Int) = 0 := by
    intro j hj
    by_cases e : j = 0
    · subst e; rw [eD]; exact Int.emod_self
    apply Classical.byContradiction
    intro hz
    have hE := Eqv.cadd j 0 (-(D 0 j / (m : Int))) hj (by omega) e hD
    have hv : (fun i' j' => if j' = j then D i' j' + -(D 0 j / (m : Int)) * D i' 0 else D i' j') 0 j = D 0 j % (m : Int) := by
      show (if j = j then D 0 j + -(D 0 j / (m : Int)) * D 0 0 else D 0 j) = _
      rw [if_pos rfl, eD, Int.emod_def, Int.neg_mul, Int.mul_comm (m : Int)]; omega
    have := hmn _ 0 j _ hE (by omega) hj hv hz
    have h1 := Int.emod_lt_of_pos (D 0 j) (show (0 : Int) < m by omega)
    have h2 := Int.emod_nonneg (D 0 j) (show (m : Int) ≠ 0 by omega)
    omega
  have cancel : ∀ x : Int, x % (m : Int) = 0 → x + -(x / (m : Int)) * (m : Int) = 0 := by
    intro x hx
    have := Int.mul_ediv_add_emod x (m : Int)
    rw [hx] at this
    rw [Int.neg_mul, Int.mul_comm (x / (m : Int))]; omega
  -- they are cleared
  have hE := hD.trans (Eqv.raddAll (n := n + 1) (c := c + 1) D 0 (by omega) (fun i => -(D i 0 / (m : Int))) (n + 1) (Nat.le_refl _))
  obtain ⟨E, hEd⟩ : ∃ E : Mx, (fun i j => if i < n + 1 ∧ i ≠ 0 then D i j + -(D i 0 / (m : Int)) * D 0 j else D i j) = E := ⟨_, rfl⟩
  rw [hEd] at hE
  have E0 : ∀ j, E 0 j = D 0 j := fun j => by rw [← hEd]; exact if_neg (by omega)
  have Ec : ∀ i, i < n → E (i + 1) 0 = 0 := fun i hi => by
    rw [← hEd]
    show (if i + 1 < n + 1 ∧ i + 1 ≠ 0 then _ else _) = _
    rw [if_pos (by omega), eD]
    exact cancel _ (hc0 _ (by omega))
  have hF := hE.trans (Eqv.caddAll (n := n + 1) (c := c + 1) E 0 (by omega) (fun j => -(E 0 j / (m : Int))))
  have hG : Eqv (n + 1) (c + 1) A (bord m (fun i j => E (i + 1) (j + 1))) := by
    refine .cong hF fun i j hi hj => ?_
    rcases i with _ | i <;> rcases j with _ | j
    · rw [if_neg (by omega), E0, eD]; rfl
    · rw [if_pos (by omega), E0 0, eD, E0]
      exact (cancel _ (hr0 _ hj)).symm
    · rw [if_neg (by omega), Ec i (by omega)]; rfl
    · rw [if_pos (by omega), Ec i (by omega), Int.mul_zero, Int.add_zero]; rfl
  refine ⟨m, _, hG, fun i j hi hj => ?_⟩
  apply Int.dvd_of_emod_eq_zero
  apply Classical.byContradiction
  intro hz
  have h1 := Eqv.radd 0 (i + 1) 1 (by omega) (by omega) (by omega) hG
  have h2 := Eqv.cadd (j + 1) 0 (-(E (i + 1) (j + 1) / (m : Int))) (by omega) (by omega) (by omega) h1
  have hv : (fun i' j' => if j' = j + 1 then (if i' = 0 then bord m (fun i j => E (i + 1) (j + 1)) i' j' + 1 * bord m (fun i j => E (i + 1) (j + 1)) (i + 1) j' else bord m (fun i j => E (i + 1) (j + 1)) i' j') + -(E (i + 1) (j + 1) / (m : Int)) * (if i' = 0 then bord m (fun i j => E (i + 1) (j + 1)) i' 0 + 1 * bord m (fun i j => E (i + 1) (j + 1)) (i + 1) 0 else bord m (fun i j => E (i + 1) (j + 1)) i' 0) else (if i' = 0 then bord m (fun i j => E (i + 1) (j + 1)) i' j' + 1 * bord m (fun i j => E (i + 1) (j + 1)) (i + 1) j' else bord m (fun i j => E (i + 1) (j + 1)) i' j')) 0 (j + 1) = E (i + 1) (j + 1) % (m : Int) := by
    show (if j + 1 = j + 1 then (if (0 : Nat) = 0 then bord m (fun i j => E (i + 1) (j + 1)) 0 (j + 1) + 1 * bord m (fun i j => E (i + 1) (j + 1)) (i + 1) (j + 1) else bord m (fun i j => E (i + 1) (j + 1)) 0 (j + 1)) + -(E (i + 1) (j + 1) / (m : Int)) * (if (0 : Nat) = 0 then bord m (fun i j => E (i + 1) (j + 1)) 0 0 + 1 * bord m (fun i j => E (i + 1) (j + 1)) (i + 1) 0 else bord m (fun i j => E (i + 1) (j + 1)) 0 0) else _) = _
    rw [if_pos rfl, if_pos rfl, if_pos rfl, bord_r, bord_s, bord_0, bord_c, Int.emod_def, Int.mul_comm (m : Int), Int.neg_mul, Int.mul_add]
    omega
  have := hmn _ 0 (j + 1) _ h2 (by omega) (by omega) hv hz
  have h1 := Int.emod_lt_of_pos (E (i + 1) (j + 1)) (show (0 : Int) < m by omega)
  have h2 := Int.emod_nonneg (E (i + 1) (j + 1)) (show (m : Int) ≠ 0 by omega)
  omega

/-- THE DIAGONAL FORM -/
theorem smith_ex : ∀ (n c : Nat) (A : Mx), ∃ d : Nat → Nat, Eqv n c A (dgM d) ∧ Chain d (min n c)
  | 0, _, _ => ⟨fun _ => 0, .of fun i _ hi _ => by omega, fun i hi => by omega⟩
  | _ + 1, 0, _ => ⟨fun _ => 0, .of fun _ j _ hj => by omega, fun i hi => by omega⟩
  | n + 1, c + 1, A => by
    obtain ⟨d0, X, h1, h2⟩ := corner (n := n) (c := c) A
    obtain ⟨d, h3, h4⟩ := smith_ex n c X
    refine ⟨fun i => if i = 0 then d0 else d (i - 1), .cong (h1.trans (h3.bord d0)) fun i j hi hj => ?_, fun i hi => ?_⟩
    · rcases i with _ | i <;> rcases j with _ | j
      · rfl
      · rfl
      · rfl
      · rw [bord_s]; unfold dgM; simp
    · rcases i with _ | i
      · have := h3.dvd h2 0 0 (by omega) (by omega)
        unfold dgM at this
        rw [if_pos rfl] at this
        show (if 0 = 0 then d0 else _) ∣ (if 0 + 1 = 0 then d0 else d (0 + 1 - 1))
        rw [if_pos rfl, if_neg (by omega)]
        exact Int.natCast_dvd_natCast.1 this
      · show (if i + 1 = 0 then d0 else d (i + 1 - 1)) ∣ (if i + 1 + 1 = 0 then d0 else d (i + 1 + 1 - 1))
        rw [if_neg (by omega), if_neg (by omega)]
        exact h4 i (by omega)
end Go.Proofs.Yteanhbldhaiekaa
