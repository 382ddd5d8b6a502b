/-
  The matrix of two blocks, plain; a fresh row into which another is copied.
-/
import Derived.Test.YteanhbldhaiekaaL39
import Derived.Test.YteanhbldhaiekaaAw39
import Derived.Laws.CopyOwn
namespace Go.Proofs.Yteanhbldhaiekaa
open Go.RowKit

/-- row i of the matrix of two blocks -/
def blR (x y : List (List Int)) (n m i : Nat) : List Int := if i < n then x.getD i [] ++ List.replicate m 0 else List.replicate n 0 ++ y.getD (i - n) []
def blM (x y : List (List Int)) (n m i : Nat) : List (List Int) := (List.range i).map fun i => blR x y n m i
section
variable {x y : List (List Int)} {n m : Nat}
theorem blM_succ (x y : List (List Int)) (n m i : Nat) : blM x y n m (i + 1) = blM x y n m i ++ [blR x y n m i] := by simp [blM, List.range_succ]
theorem blM_len (x y : List (List Int)) (n m i : Nat) : (blM x y n m i).length = i := by simp [blM]
theorem blM_row {i k : Nat} (h : i < k) : (blM x y n m k).getD i [] = blR x y n m i := by simp [blM, h]
theorem blR_len (hx : ∀ i, i < n → rowL x i = n) (hy : ∀ i, i < m → rowL y i = m) {i : Nat} (hi : i < n + m) : (blR x y n m i).length = n + m := by
  unfold blR
  split
  · rename_i h
    have := hx i h
    unfold rowL at this
    rw [List.length_append, List.length_replicate, this]
  · rename_i h
    have := hy (i - n) (by omega)
    unfold rowL at this
    rw [List.length_append, List.length_replicate, this]
theorem blM_rowL (hx : ∀ i, i < n → rowL x i = n) (hy : ∀ i, i < m → rowL y i = m) {i : Nat} (hi : i < n + m) : rowL (blM x y n m (n + m)) i = n + m := by
  unfold rowL
  rw [blM_row hi, blR_len hx hy hi]
theorem gi_app_lt {xs ys : List Int} {k : Nat} (h : k < xs.length) : gi (xs ++ ys) k = gi xs k := gi_append_lt h
theorem gi_app_ge {xs ys : List Int} {k : Nat} : gi (xs ++ ys) (xs.length + k) = gi ys k := by unfold gi; rw [List.getD_eq_getElem?_getD, List.getD_eq_getElem?_getD, List.getElem?_append_right (Nat.le_add_right _ _), Nat.add_sub_cancel_left]
theorem gi_rep (n : Nat) (k : Nat) : gi (List.replicate n 0) k = 0 := by
  by_cases h : k < n
  · exact gi_replicate h
  · unfold gi; rw [List.getD_eq_getElem?_getD, List.getElem?_eq_none (by rw [List.length_replicate]; omega)]; rfl
theorem blM_11 (hx : ∀ i, i < n → rowL x i = n) {i j : Nat} (hi : i < n) (hj : j < n) : eI (blM x y n m (n + m)) i j = eI x i j := by
  unfold eI
  have e := hx i hi
  unfold rowL at e
  rw [blM_row (by omega)]
  unfold blR
  rw [if_pos hi, gi_app_lt (by omega)]
theorem blM_22 {i j : Nat} (hi : i < m) (_hj : j < m) : eI (blM x y n m (n + m)) (n + i) (n + j) = eI y i j := by
  unfold eI
  rw [blM_row (by omega)]
  unfold blR
  rw [if_neg (by omega), show n + i - n = i by omega]
  have := gi_app_ge (xs := List.replicate n (0 : Int)) (ys := y.getD i []) (k := j)
  rwa [List.length_replicate] at this
theorem blM_12 (hx : ∀ i, i < n → rowL x i = n) {i j : Nat} (hi : i < n) (hj : j < m) : eI (blM x y n m (n + m)) i (n + j) = 0 ∧ eI (blM x y n m (n + m)) (n + j) i = 0 := by
  have e := hx i hi
  unfold rowL at e
  constructor
  · unfold eI
    rw [blM_row (by omega)]
    unfold blR
    rw [if_pos hi]
    have := gi_app_ge (xs := x.getD i []) (ys := List.replicate m (0 : Int)) (k := j)
    rw [e] at this
    rw [this, gi_rep]
  · unfold eI
    rw [blM_row (by omega)]
    unfold blR
    rw [if_neg (by omega), gi_app_lt (by rw [List.length_replicate]; exact hi), gi_rep]
end
/-- a square matrix: rows as long as there are rows -/
theorem bnd_sq {x : List (List Int)} {n : Nat} (hl : x.length = n) (hs : SqS x) : bndM x.length (rowL x 0) (eI x) = bndM n n (eI x) := by
  subst hl
  rcases Nat.eq_zero_or_pos x.length with h | h
  · unfold bndM; rw [h]; rfl
  · rw [hs.1 0 h]
theorem sN_len : ∀ (n m : Nat) (f : Nat → Nat), sN (n + m) f = sN n f + sN m fun k => f (n + k)
  | n, 0, f => by rw [Nat.add_zero]; rfl
  | n, m + 1, f => by rw [← Nat.add_assoc]; show sN (n + m) f + f (n + m) = sN n f + (sN m (fun k => f (n + k)) + f (n + m)); rw [sN_len n m f]; omega
theorem pN_len : ∀ (n m : Nat) (f : Nat → Nat), pN (n + m) f = pN n f * pN m fun k => f (n + k)
  | n, 0, f => by rw [Nat.add_zero]; exact (Nat.mul_one _).symm
  | n, m + 1, f => by rw [← Nat.add_assoc]; show pN (n + m) f * f (n + m) = pN n f * (pN m (fun k => f (n + k)) * f (n + m)); rw [pN_len n m f, Nat.mul_assoc]
theorem sN_zero : ∀ {n : Nat} {f : Nat → Nat}, (∀ k, k < n → f k = 0) → sN n f = 0
  | 0, _, _ => rfl
  | n + 1, f, h => by show sN n f + f n = 0; rw [sN_zero fun k hk => h k (by omega), h n (by omega)]
/-- the bound of the matrix of two blocks is the product of theirs -/
theorem bnd_blk {x y : List (List Int)} {n m : Nat} (hx : ∀ i, i < n → rowL x i = n) : bndM (n + m) (n + m) (eI (blM x y n m (n + m))) = bndM n n (eI x) * bndM m m (eI y) := by
  unfold bndM
  rw [pN_len]
  refine _root_.congr (_root_.congrArg _ (pN_congr fun i hi => ?_)) (pN_congr fun i hi => ?_)
  · rw [sN_len, sN_congr (n := n) fun j hj => by rw [blM_11 hx hi hj], sN_zero (n := m) fun j hj => by rw [(blM_12 hx hi hj).1]; rfl, Nat.add_zero]
  · rw [sN_len, sN_zero (n := n) fun j hj => by rw [(blM_12 hx hj hi).2]; rfl, Nat.zero_add, sN_congr (n := m) fun j hj => by rw [blM_22 hi hj]]
theorem bnd_pos (n c : Nat) (m : Mx) : 1 ≤ bndM n c m := pN_pos fun _ _ => Nat.le_max_right ..
section
variable {x y : List (List Int)} {n m : Nat}
theorem blk_all (hlx : x.length = n) (hly : y.length = m) (hsx : SqS x) (hsy : SqS y) (h6 : n + m ≤ 6) : IsM (blM x y n m (n + m)) ∧ SqS (blM x y n m (n + m)) := by
  have hx : ∀ i, i < n → rowL x i = n := fun i hi => by rw [hsx.1 i (by omega), hlx]
  have hy : ∀ i, i < m → rowL y i = m := fun i hi => by rw [hsy.1 i (by omega), hly]
  have hl := blM_len x y n m (n + m)
  refine ⟨⟨fun i hi => ?_, by omega, ?_⟩, fun i hi => ?_, fun i hi j hj => ?_⟩
  · rw [hl] at hi
    rw [blM_rowL hx hy hi, blM_rowL hx hy (by omega)]
  · rcases Nat.eq_zero_or_pos (n + m) with h | h
    · rw [rowL_nil (by rw [hl]; exact h)]; omega
    · rw [blM_rowL hx hy h]; omega
  · rw [hl] at hi ⊢; exact blM_rowL hx hy hi
  · rw [hl] at hi
    by_cases h1 : i < n
    · rw [blM_11 hx h1 (by omega), blM_11 hx (by omega) h1]
      exact hsx.2 i (by omega) j hj
    · obtain ⟨a, rfl⟩ : ∃ a, i = n + a := ⟨i - n, by omega⟩
      by_cases h2 : j < n
      · rw [(blM_12 hx h2 (by omega : a < m)).2, (blM_12 hx h2 (by omega : a < m)).1]
      · obtain ⟨b, rfl⟩ : ∃ b, j = n + b := ⟨j - n, by omega⟩
        rw [blM_22 (by omega) (by omega), blM_22 (by omega) (by omega)]
        exact hsy.2 a (by omega) b (by omega)
/-- what Inertia answers for the blocks and for the matrix -/
theorem blk_in (hlx : x.length = n) (hly : y.length = m) (hsx : SqS x) (hsy : SqS y) (hmx : IsM x) (hmy : IsM y) (h6 : n + m ≤ 6) (h : inE (blM x y n m (n + m)) = 0) {p q r s u v : Nat} {z t k : Int} (h1 : InA x p q z) (h2 : InA y r s t) (h3 : InA (blM x y n m (n + m)) u v k) :
    inE x = 0 ∧ inE y = 0 ∧ u = p + r ∧ v = q + s ∧ k = z + t ∧ p + q ≤ n ∧ r + s ≤ m ∧ z = (n : Int) - p - q ∧ t = (m : Int) - r - s := by
  have hx : ∀ i, i < n → rowL x i = n := fun i hi => by rw [hsx.1 i (by omega), hlx]
  have hl := blM_len x y n m (n + m)
  obtain ⟨k1, k2⟩ := blk_all hlx hly hsx hsy h6
  obtain ⟨-, -, hs⟩ := in_0 h
  unfold Sml at hs
  rw [bnd_sq hl k2, bnd_blk hx] at hs
  have hbx := bnd_pos n n (eI x)
  have hby := bnd_pos m m (eI y)
  have e1 : inE x = 0 := by
    unfold inE
    rw [if_pos ⟨hmx, hsx⟩, if_pos]
    unfold Sml
    rw [bnd_sq hlx hsx]
    exact Nat.le_trans (Nat.le_mul_of_pos_right _ hby) hs
  have e2 : inE y = 0 := by
    unfold inE
    rw [if_pos ⟨hmy, hsy⟩, if_pos]
    unfold Sml
    rw [bnd_sq hly hsy]
    exact Nat.le_trans (Nat.le_mul_of_pos_left _ hbx) hs
  unfold InA at h1 h2 h3
  rw [if_pos e1, hlx] at h1
  rw [if_pos e2, hly] at h2
  rw [if_pos h, hl] at h3
  obtain ⟨a1, a2, a3, -⟩ := h1
  obtain ⟨b1, b2, b3, -⟩ := h2
  obtain ⟨c1, c2, c3, -⟩ := h3
  obtain ⟨rfl, rfl⟩ := c3.uniq (a3.blocks b3 (C := eI (blM x y n m (n + m))) (fun i j hi hj => blM_11 hx hi hj) (fun i j hi hj => blM_22 hi hj) fun i j hi hj => blM_12 hx hi hj)
  exact ⟨e1, e2, rfl, rfl, by omega, a1, b1, a2, b2⟩
end
/-- a fresh block of ints is a fresh row -/
theorem OI.of_heap {w : World} {B g c : Nat} {xs : List Int} (hB : B ≤ g) (hh : w.heap[g]? = some (.cells (xs.map (Value.int .i64)).toArray 3 (0, 0))) (hc : xs.length = c) (hm : c ≤ maxLen) : OI w B (.slice (some ⟨g, 0, none⟩) xs.length c) xs := by
  subst hc
  refine ⟨by simp, .inr ⟨g, xs.length, (xs.map (Value.int .i64)).toArray, rfl, hB, hh, Nat.le_refl _, hm, by simp, by rw [Nat.mul_one]; exact List.take_of_length_le (by simp)⟩⟩
end Go.Proofs.Yteanhbldhaiekaa

