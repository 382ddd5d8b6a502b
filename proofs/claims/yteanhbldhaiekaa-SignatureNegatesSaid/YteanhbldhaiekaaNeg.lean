/-
  Two matrices that grow side by side; the negative and a multiple of a matrix, plain.
-/
import Derived.Test.YteanhbldhaiekaaL39
import Derived.Test.YteanhbldhaiekaaAw39
namespace Go.Proofs.Yteanhbldhaiekaa
open Go.RowKit

/-- two fresh rows of rows, apart -/
def R2 (w : World) (N : Nat) (v1 v2 : Value) (X1 X2 : List (List Int)) : Prop := RR 33 w N (fun b => v2.ownBlock = some b) v1 X1 ∧ RR 33 w N (fun b => v1.ownBlock = some b) v2 X2
/-- two fresh rows of ints, apart -/
def O2 (w : World) (N : Nat) (v1 v2 : Value) (xs ys : List Int) : Prop := OI w N v1 xs ∧ OI w N v2 ys ∧ ∀ g, v1.ownBlock = some g → v2.ownBlock ≠ some g
section
variable {w w' : World} {N : Nat} {v1 v2 v1' v2' u : Value} {X1 X2 : List (List Int)} {xs ys x : List Int} {y : Int}
theorem R2.symm (h : R2 w N v1 v2 X1 X2) : R2 w N v2 v1 X2 X1 := ⟨h.2, h.1⟩
theorem O2.symm (h : O2 w N v1 v2 xs ys) : O2 w N v2 v1 ys xs := ⟨h.2.1, h.1, fun g h1 h2 => h.2.2 g h2 h1⟩
theorem R2.nil (w : World) (N : Nat) : R2 w N (.slice none 0 0) (.slice none 0 0) [] [] := ⟨RR.nil _ _ _, RR.nil _ _ _⟩
theorem O2.nil (w : World) (N : Nat) : O2 w N (.slice none 0 0) (.slice none 0 0) [] [] := ⟨OR.nil _ _, OR.nil _ _, fun g h => by simp [Value.ownBlock] at h⟩
theorem R2.below {C : Nat} (h : R2 w N v1 v2 X1 X2) (hb : Below C w w') (hC : w.heap.size ≤ C) : R2 w' N v1 v2 X1 X2 := ⟨h.1.below hb hC, h.2.below hb hC⟩
theorem O2.mono {N' : Nat} (h : O2 w N v1 v2 xs ys) (hN : N' ≤ N) : O2 w N' v1 v2 xs ys := ⟨h.1.mono hN, h.2.1.mono hN, h.2.2⟩
/-- one element more in the first row -/
theorem O2.push (h : O2 w N v1 v2 xs ys) (ho : OI w' N v1' (xs ++ [y])) (hg : (w.alloc (.cells #[.int .i64 y] 3)).grownBy w' v1.ownBlock) (hob : v1'.ownBlock = v1.ownBlock ∨ v1'.ownBlock = some (w.heap.size + 1)) : O2 w' N v1' v2 (xs ++ [y]) ys := by
  obtain ⟨h1, h2, h3⟩ := h
  refine ⟨ho, h2.keep fun g hgy => ?_, fun g hg1 hg2 => ?_⟩
  · have hlt := (h2.lt g hgy).2
    rw [hg.block g (by simp; omega) (fun e => h3 g e.symm hgy), Below.heap_alloc w _ g hlt]
  · rcases hob with e | e
    · exact h3 g (e ▸ hg1) hg2
    · rw [e] at hg1
      injection hg1 with hg1
      have := (h2.lt g hg2).2
      omega
/-- one row more in the first matrix; a row of ints beside it is kept -/
theorem R2.push {vs : List Value} (h : R2 w N v1 v2 X1 X2) (hv : RRv 33 w N (fun b => v2.ownBlock = some b) v1 vs X1) (hu : OI w N u x) (ho : OR 33 id w' N v1' (vs ++ [u])) (hg : (w.alloc (.cells #[u] 33)).grownBy w' v1.ownBlock)
    (hob : v1'.ownBlock = v1.ownBlock ∨ v1'.ownBlock = some (w.heap.size + 1)) : R2 w' N v1' v2 (X1 ++ [x]) X2 := by
  obtain ⟨v2s, k1, k2, k3, k4⟩ := h.2
  have old : ∀ {g : Nat}, g < w.heap.size → v1.ownBlock ≠ some g → w'.heap[g]? = w.heap[g]? := fun {g} hlt hne => by
    rw [hg.block g (by simp; omega) (fun e => hne e.symm), Below.heap_alloc w _ g hlt]
  have nf : ∀ {g : Nat}, g < w.heap.size → v1.ownBlock ≠ some g → v1'.ownBlock ≠ some g := fun {g} hlt hne e => by
    rcases hob with e2 | e2
    · exact hne (e2 ▸ e)
    · rw [e2] at e
      injection e with e
      omega
  refine ⟨⟨_, RRv.push (by decide) hv hu (fun g h1 h2 => OR.apart hu k1 (by decide) h1 h2) (fun b hF => (k1.lt b hF).2) ho hg hob⟩, v2s, k1.keep fun g hg1 => old (k1.lt g hg1).2 (k2 g hg1), fun g hg1 => nf (k1.lt g hg1).2 (k2 g hg1), k3, fun k hk => ?_⟩
  obtain ⟨k5, k6⟩ := k4 k hk
  exact ⟨k5.keep fun g hg1 => old (k5.lt g hg1).2 (k6 g hg1), fun g hg1 => nf (k5.lt g hg1).2 (k6 g hg1)⟩
theorem R2.row {vs : List Value} (hv : RRv 33 w N (fun b => v2.ownBlock = some b) v1 vs X1) (hu : OI w N u x) {v : Value} (hg : (w.alloc (.cells #[v] 33)).grownBy w' v1.ownBlock) : OI w' N u x := hu.keep fun g hgy => by
  have hlt := (hu.lt g hgy).2
  have hne := OR.apart hu hv.1 (by decide) hgy
  rw [hg.block g (by simp; omega) (fun e => hne e.symm), Below.heap_alloc w _ g hlt]
end

/-- the numbers of a matrix changed by f -/
def fRow (f : Int → Int) (x : List (List Int)) (a n : Nat) : List Int := (List.range n).map fun b => f (eI x a b)
def fMat (f : Int → Int) (x : List (List Int)) (n i : Nat) : List (List Int) := (List.range i).map fun a => fRow f x a n
section
variable {f : Int → Int} {x : List (List Int)} {n i a b : Nat}
theorem fRow_succ (f : Int → Int) (x : List (List Int)) (a n : Nat) : fRow f x a (n + 1) = fRow f x a n ++ [f (eI x a n)] := by simp [fRow, List.range_succ]
theorem fRow_len (f : Int → Int) (x : List (List Int)) (a n : Nat) : (fRow f x a n).length = n := by simp [fRow]
theorem fMat_succ (f : Int → Int) (x : List (List Int)) (n i : Nat) : fMat f x n (i + 1) = fMat f x n i ++ [fRow f x i n] := by simp [fMat, List.range_succ]
theorem fMat_len (f : Int → Int) (x : List (List Int)) (n i : Nat) : (fMat f x n i).length = i := by simp [fMat]
theorem fMat_mk : fMat f x n n = mkL n n fun a b => f (eI x a b) := rfl
theorem fMat_row (ha : a < n) : rowL (fMat f x n n) a = n := by rw [fMat_mk]; exact mkL_rowL ha
theorem fMat_eI (ha : a < n) (hb : b < n) : eI (fMat f x n n) a b = f (eI x a b) := by rw [fMat_mk]; exact mkL_eI ha hb
theorem fMat_ok (hn : n ≤ 64) (hs : ∀ i, i < n → ∀ j, j < i → eI x i j = eI x j i) : IsM (fMat f x n n) ∧ SqS (fMat f x n n) := by
  refine ⟨by rw [fMat_mk]; exact mkL_IsM hn hn, fun i hi => ?_, fun i hi j hj => ?_⟩
  · rw [fMat_len] at hi ⊢; exact fMat_row hi
  · rw [fMat_len] at hi
    rw [fMat_eI hi (by omega), fMat_eI (by omega) hi, hs i hi j hj]
end
/-- a square matrix: rows as long as there are rows -/
theorem bnd_sq {x : List (List Int)} {n : Nat} (hl : x.length = n) (hs : SqS x) : bndM x.length (rowL x 0) (eI x) = bndM n n (eI x) := by
  subst hl
  rcases Nat.eq_zero_or_pos x.length with h | h
  · unfold bndM; rw [h]; rfl
  · rw [hs.1 0 h]
theorem in_neg {x : List (List Int)} {n : Nat} (hl : x.length = n) (hm : IsM x) (hs : SqS x) : inE (fMat (fun v => -v) x n n) = inE x := by
  have hn64 : n ≤ 64 := by have := hm.2.1; omega
  obtain ⟨k1, k2⟩ := fMat_ok (f := fun v => -v) (x := x) (n := n) hn64 (by rw [← hl]; exact hs.2)
  have e : Sml (fMat (fun v => -v) x n n) ↔ Sml x := by
    unfold Sml
    rw [bnd_sq hl hs, bnd_sq (fMat_len _ _ _ _) k2]
    have : bndM n n (eI (fMat (fun v => -v) x n n)) = bndM n n (eI x) := by
      unfold bndM
      refine pN_congr fun i hi => ?_
      rw [sN_congr fun j hj => by rw [fMat_eI hi hj, Int.natAbs_neg]]
    rw [this]
  unfold inE
  rw [if_pos (And.intro k1 k2), if_pos (And.intro hm hs)]
  by_cases h : Sml x
  · rw [if_pos h, if_pos (e.2 h)]
  · rw [if_neg h, if_neg fun h2 => h (e.1 h2)]
theorem inA_neg {x : List (List Int)} {n p q r s : Nat} {z t : Int} (hl : x.length = n) (hx : InA x p q z) (he : inE x = 0) (hn : InA (fMat (fun v => -v) x n n) r s t) (he2 : inE (fMat (fun v => -v) x n n) = 0) : r = q ∧ s = p ∧ t = z := by
  unfold InA at hx hn
  rw [if_pos he] at hx
  rw [if_pos he2] at hn
  obtain ⟨a1, a2, a3, -⟩ := hx
  obtain ⟨b1, b2, b3, -⟩ := hn
  rw [fMat_len] at b2 b3
  rw [hl] at a2 a3
  obtain ⟨rfl, rfl⟩ := b3.uniq (a3.neg fun i j hi hj => fMat_eI hi hj)
  exact ⟨rfl, rfl, by omega⟩
theorem inA_mul {x : List (List Int)} {n p q r s : Nat} {z t k : Int} (hk : 0 < k) (hl : x.length = n) (hx : InA x p q z) (he : inE x = 0) (hn : InA (fMat (fun v => k * v) x n n) r s t) (he2 : inE (fMat (fun v => k * v) x n n) = 0) : r = p ∧ s = q ∧ t = z := by
  unfold InA at hx hn
  rw [if_pos he] at hx
  rw [if_pos he2] at hn
  obtain ⟨a1, a2, a3, -⟩ := hx
  obtain ⟨b1, b2, b3, -⟩ := hn
  rw [fMat_len] at b2 b3
  rw [hl] at a2 a3
  obtain ⟨rfl, rfl⟩ := b3.uniq (a3.mul hk fun i j hi hj => fMat_eI hi hj)
  exact ⟨rfl, rfl, by omega⟩
end Go.Proofs.Yteanhbldhaiekaa

