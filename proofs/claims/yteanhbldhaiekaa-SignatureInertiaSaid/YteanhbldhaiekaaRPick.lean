/-
  The contracts of the reference's bits and pick.
-/
import Derived.Test.YteanhbldhaiekaaRDet
namespace Go.Proofs.Yteanhbldhaiekaa
open Go.RowKit

/-- the set bits below q -/
def blL (r q : Nat) : List Nat := (List.range q).filter fun i => r / 2 ^ i % 2 == 1
theorem blL_succ (r q : Nat) : blL r (q + 1) = if r / 2 ^ q % 2 = 1 then blL r q ++ [q] else blL r q := by
  unfold blL
  rw [List.range_succ, List.filter_append]
  by_cases h : r / 2 ^ q % 2 = 1
  · rw [if_pos h]; simp [h]
  · rw [if_neg h]; simp [h]
theorem blL_le (r : Nat) : ∀ q, (blL r q).length ≤ q
  | 0 => Nat.le_refl _
  | q + 1 => by
    rw [blL_succ]
    have := blL_le r q
    split
    · simp; omega
    · omega
theorem blL_lt {r q x : Nat} (h : x ∈ blL r q) : x < q := List.mem_range.1 (List.mem_filter.1 h).1
def pcN : Nat → Nat → Nat
  | 0, _ => 0
  | f + 1, r => r % 2 + pcN f (r / 2)
theorem pcN_zero : ∀ f, pcN f 0 = 0
  | 0 => rfl
  | f + 1 => by show 0 % 2 + pcN f (0 / 2) = 0; rw [Nat.zero_div, pcN_zero f]
theorem pcN_all : ∀ q, q ≤ 4 → ∀ r, r < 2 ^ q → pcN q r = (blL r q).length := by decide +kernel
/-- the chosen row; the chosen rows -/
def piR (xss : List (List Int)) (i s q : Nat) : List Int := (blL s q).map fun k => eI xss i k
def piL (xss : List (List Int)) (r s c q : Nat) : List (List Int) := (blL r q).map fun i => piR xss i s c
theorem piR_len (xss : List (List Int)) (i s q : Nat) : (piR xss i s q).length = (blL s q).length := by simp [piR]
theorem piL_len (xss : List (List Int)) (r s c q : Nat) : (piL xss r s c q).length = (blL r q).length := by simp [piL]
theorem piR_yes {xss : List (List Int)} {i s q : Nat} (h : s / 2 ^ q % 2 = 1) : piR xss i s (q + 1) = piR xss i s q ++ [eI xss i q] := by unfold piR; rw [blL_succ, if_pos h]; simp
theorem piR_no {xss : List (List Int)} {i s q : Nat} (h : s / 2 ^ q % 2 ≠ 1) : piR xss i s (q + 1) = piR xss i s q := by unfold piR; rw [blL_succ, if_neg h]
theorem piL_yes {xss : List (List Int)} {r s c q : Nat} (h : r / 2 ^ q % 2 = 1) : piL xss r s c (q + 1) = piL xss r s c q ++ [piR xss q s c] := by unfold piL; rw [blL_succ, if_pos h]; simp
theorem piL_no {xss : List (List Int)} {r s c q : Nat} (h : r / 2 ^ q % 2 ≠ 1) : piL xss r s c (q + 1) = piL xss r s c q := by unfold piL; rw [blL_succ, if_neg h]
/-- the a-th set bit -/
def psN (r q a : Nat) : Nat := (blL r q).getD a 0
theorem psN_lt {r q a : Nat} (h : a < (blL r q).length) : psN r q a < q := by
  unfold psN
  rw [List.getD_eq_getElem?_getD, List.getElem?_eq_getElem h]
  exact blL_lt (List.getElem_mem h)
theorem piL_mk {xss : List (List Int)} {r s n c k l : Nat} (hk : (blL r n).length = k) (hl : (blL s c).length = l) : piL xss r s c n = mkL k l fun a b => eI xss (psN r n a) (psN s c b) := by
  have key : ∀ {α : Type} (L : List Nat) (f : Nat → α), L.map f = (List.range L.length).map fun a => f (L.getD a 0) := fun L f => by
    apply List.ext_getElem (by simp)
    intro i h1 h2
    simp
    congr 1
    have : i < L.length := by simpa using h1
    rw [List.getElem?_eq_getElem this]
    rfl
  unfold piL mkL
  rw [key, hk]
  refine List.map_congr_left fun a _ => ?_
  unfold piR
  rw [key, hl]
  rfl
end Go.Proofs.Yteanhbldhaiekaa

