/-
  The examples of layer 26 hold.
-/
import Derived.Test.YteanhbldhaiekaaLit
import Derived.Test.YteanhbldhaiekaaSmith
import Derived.Test.YteanhbldhaiekaaSEq
namespace Go.Proofs.Yteanhbldhaiekaa
open Go.RowKit

abbrev mA : List (List Int) := [[2, 4], [6, 8]]
abbrev mB : List (List Int) := [[2, -1, -1], [-1, 2, -1], [-1, -1, 2]]
def dA (j : Nat) : Nat := if j = 0 then 2 else 4
def dB (j : Nat) : Nat := if j = 0 then 1 else if j = 1 then 3 else 0
theorem smD_A : SmD mA dA := by
  refine ⟨?_, fun i hi => ?_⟩
  · refine .cong (.rneg 1 (by decide) (.cadd 1 0 (-2) (by decide) (by decide) (by decide) (.radd 1 0 (-3) (by decide) (by decide) (by decide) (.refl _)))) ?_
    intro i j hi hj
    have : ∀ i, i < 2 → ∀ j, j < 2 → dgM dA i j = (fun i j => if i = 1 then -(fun i j => if j = 1 then (fun i j => if i = 1 then eI mA i j + -3 * eI mA 0 j else eI mA i j) i j + -2 * (fun i j => if i = 1 then eI mA i j + -3 * eI mA 0 j else eI mA i j) i 0 else (fun i j => if i = 1 then eI mA i j + -3 * eI mA 0 j else eI mA i j) i j) i j else (fun i j => if j = 1 then (fun i j => if i = 1 then eI mA i j + -3 * eI mA 0 j else eI mA i j) i j + -2 * (fun i j => if i = 1 then eI mA i j + -3 * eI mA 0 j else eI mA i j) i 0 else (fun i j => if i = 1 then eI mA i j + -3 * eI mA 0 j else eI mA i j) i j) i j) i j := by decide +kernel
    exact this i hi j hj
  · have hi2 : i + 1 < 2 := hi
    obtain rfl : i = 0 := by omega
    decide
theorem smD_B : SmD mB dB := by
  refine ⟨?_, fun i hi => ?_⟩
  · have key : ∀ (X : Mx), X = eI mB → Eqv 3 3 X (dgM dB) := by
      intro X hX
      have h1 := Eqv.rsw (n := 3) (c := 3) 0 1 (by decide) (by decide) (by decide) (.refl X)
      have h2 := h1.rneg 0 (by decide)
      have h3 := h2.radd 1 0 (-2) (by decide) (by decide) (by decide)
      have h4 := h3.radd 2 0 1 (by decide) (by decide) (by decide)
      have h5 := h4.cadd 1 0 2 (by decide) (by decide) (by decide)
      have h6 := h5.cadd 2 0 (-1) (by decide) (by decide) (by decide)
      have h7 := h6.radd 2 1 1 (by decide) (by decide) (by decide)
      have h8 := h7.cadd 2 1 1 (by decide) (by decide) (by decide)
      refine h8.cong ?_
      subst hX
      intro i j hi hj
      have hi' : i = 0 ∨ i = 1 ∨ i = 2 := by omega
      have hj' : j = 0 ∨ j = 1 ∨ j = 2 := by omega
      rcases hi' with rfl | rfl | rfl <;> rcases hj' with rfl | rfl | rfl <;> decide +kernel
    exact key _ rfl
  · have hi2 : i + 1 < 3 := hi
    have hi' : i = 0 ∨ i = 1 := by omega
    rcases hi' with rfl | rfl <;> decide
theorem aw_det : dtV mA = -8 ∧ dtE mA = 0 := by decide +kernel
theorem aw_rk : rkE mB = 0 ∧ smL mB dB = [1, 3, 0] := by decide +kernel
theorem aw_ker : krE mA 4 = 0 ∧ krV mA 4 = 8 := by
  have hk : kerN mA.length (rowL mA 0) (eI mA) 4 = 8 := by
    rw [ker_soN smD_A (by decide)]
    decide +kernel
  have h1 : krE mA 4 = 0 := by
    unfold krE
    rw [if_pos (by decide +kernel), if_pos (by decide), if_pos (by decide +kernel)]
    show (if kerN mA.length (rowL mA 0) (eI mA) 4 ≤ _ then 0 else 9) = 0
    rw [hk]
    rfl
  refine ⟨h1, ?_⟩
  unfold krV
  rw [if_pos h1]
  exact hk
end Go.Proofs.Yteanhbldhaiekaa

