/-
  The determinant of a product. No program here.
-/
import Derived.Test.YteanhbldhaiekaaDv
namespace Go.Proofs.Yteanhbldhaiekaa

def mulM (n : Nat) (A B : Mx) : Mx := fun i j => sI n fun l => A i l * B l j
theorem sI_swn {n r s : Nat} (hr : r < n) (hs : s < n) (hne : r ≠ s) (f : Nat → Int) : sI n (fun l => f (swn r s l)) = sI n f := by
  have h : sI n (fun l => f (swn r s l) + -f l) = (f (swn r s r) + -f r) + (f (swn r s s) + -f s) :=
    sI_two (fun l => f (swn r s l) + -f l) hr hs hne fun j _ h1 h2 => by rw [swn_o h1 h2]; omega
  rw [sI_add, sI_neg, swn_l, swn_r] at h
  omega
theorem sI_bump {n r : Nat} (hr : r < n) (f : Nat → Int) (v : Int) : sI n (fun l => if l = r then f l + v else f l) = sI n f + v := by
  have h : sI n (fun l => if l = r then v else 0) = v := by
    rw [sI_one (k := r) _ hr fun j _ hj => if_neg hj, if_pos rfl]
  rw [sI_congr (g := fun k => f k + if k = r then v else 0) fun k _ => by split <;> omega, sI_add, h]
theorem det_mulM_dg {n : Nat} (d : Nat → Nat) (C : Mx) : det n (mulM n (dgM d) C) = det n (dgM d) * det n C := by
  have e1 : det n (dgM d) = pI n fun i => (d i : Int) := by
    rw [det_upper fun i j _ hj => by unfold dgM; rw [if_neg (by omega)]]
    exact pI_congr fun k _ => by unfold dgM; rw [if_pos rfl]
  have e2 : det n (mulM n (dgM d) C) = det n fun a b => if b < n then (d b : Int) * C b a else C b a := by
    rw [← det_tr]
    refine det_congr fun i j _ hj => ?_
    rw [if_pos hj]
    unfold mulM
    rw [sI_one (k := j) _ hj fun l _ hl => by unfold dgM; rw [if_neg (Ne.symm hl), Int.zero_mul]]
    unfold dgM
    rw [if_pos rfl]
  rw [e2, det_cmuls (fun a b => C b a) (fun i => (d i : Int)) n (Nat.le_refl _), e1, det_tr n C]
theorem det_mulM_step {n : Nat} {D B : Mx} (h : Eqv n n D B) (h0 : ∀ C, det n (mulM n D C) = det n D * det n C) : ∀ C, det n (mulM n B C) = det n B * det n C := by
  induction h with
  | refl => exact h0
  | @cong A B _ hc ih =>
    intro C
    rw [det_congr (B := A) hc, ← ih C]
    exact det_congr fun i j hi hj => sI_congr fun l hl => by rw [hc i l hi hl]
  | @radd B r s t h1 h2 h3 _ ih =>
    intro C
    rw [det_radd h1 h2 h3, ← ih C, ← det_radd (A := mulM n B C) (t := t) h1 h2 h3]
    refine det_congr fun i j _ _ => ?_
    unfold mulM
    by_cases e : i = r
    · rw [if_pos e, ← sI_mul, ← sI_add]
      exact sI_congr fun l _ => by dsimp only; rw [if_pos e, Int.add_mul, Int.mul_assoc]
    · rw [if_neg e]
      exact sI_congr fun l _ => by dsimp only; rw [if_neg e]
  | @cadd B r s t h1 h2 h3 _ ih =>
    intro C
    rw [det_cadd h1 h2 h3, ← det_radd (A := C) (t := t) h2 h1 (Ne.symm h3), ← ih]
    refine det_congr fun i j _ _ => ?_
    unfold mulM
    have e1 : (sI n fun l => (if l = r then B i l + t * B i s else B i l) * C l j) = (sI n fun l => B i l * C l j) + t * B i s * C r j := by
      rw [← sI_bump h1]
      refine sI_congr fun l _ => ?_
      (try dsimp only)
      split
      · rename_i e
        subst e
        rw [Int.add_mul]
      · rfl
    have e2 : (sI n fun l => B i l * (if l = s then C l j + t * C r j else C l j)) = (sI n fun l => B i l * C l j) + t * B i s * C r j := by
      rw [← sI_bump h2]
      refine sI_congr fun l _ => ?_
      (try dsimp only)
      split
      · rename_i e
        subst e
        rw [Int.mul_add, Int.mul_left_comm, Int.mul_assoc]
      · rfl
    exact e1.trans e2.symm
  | @rsw B r s h1 h2 h3 _ ih =>
    intro C
    rw [det_rswap h1 h2 h3, Int.neg_mul, ← ih C, ← det_rswap (A := mulM n B C) h1 h2 h3]
    rfl
  | @csw B r s h1 h2 h3 _ ih =>
    intro C
    have e : det n (fun i j => C (swn r s i) j) = -det n C := det_rswap h1 h2 h3
    rw [det_cswap h1 h2 h3, Int.neg_mul, ← Int.mul_neg, ← e, ← ih]
    refine det_congr fun i j _ _ => ?_
    unfold mulM
    rw [← sI_swn h1 h2 h3 fun l => B i l * C (swn r s l) j]
    exact sI_congr fun l _ => by rw [swn_swn]
  | @rneg B r h1 _ ih =>
    intro C
    rw [det_rmul (A := B) (t := -1) h1 (fun i j _ _ hne => if_neg hne) (fun j _ => by rw [if_pos rfl]; omega), Int.mul_assoc, ← ih C]
    refine det_rmul h1 (fun i j _ _ hne => ?_) (fun j _ => ?_)
    · exact sI_congr fun l _ => by dsimp only; rw [if_neg hne]
    · unfold mulM
      rw [← sI_mul]
      exact sI_congr fun l _ => by dsimp only; rw [if_pos rfl, Int.neg_mul]; omega
  | @cneg B r h1 _ ih =>
    intro C
    rw [det_cmul (A := B) (t := -1) h1 (fun i j _ _ hne => if_neg hne) (fun j _ => by rw [if_pos rfl]; omega), Int.mul_assoc, Int.mul_left_comm,
      ← det_rmul (A := C) (B := fun i j => if i = r then -C i j else C i j) (t := -1) h1 (fun i j _ _ hne => if_neg hne) (fun j _ => by rw [if_pos rfl]; omega), ← ih]
    refine det_congr fun i j _ _ => sI_congr fun l _ => ?_
    dsimp only
    split
    · rw [Int.neg_mul, Int.mul_neg]
    · rfl
theorem det_mulM {n : Nat} (A C : Mx) : det n (mulM n A C) = det n A * det n C := by
  obtain ⟨d, h, -⟩ := smith_ex n n A
  exact det_mulM_step h.symm (det_mulM_dg d) C
end Go.Proofs.Yteanhbldhaiekaa

