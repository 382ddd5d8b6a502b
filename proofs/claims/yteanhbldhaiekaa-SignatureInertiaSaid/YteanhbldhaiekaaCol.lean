/-
  The contract of the closure columnStep of isolate.
-/
import Derived.Test.YteanhbldhaiekaaRow
namespace Go.Proofs.Yteanhbldhaiekaa
open Go.RowKit

/-- the first rows of an exchange of columns; of a subtraction of columns -/
def cxN (k j : Nat) (a : Nat → Nat → Nat) (r x y : Nat) : Nat := if k ≤ x ∧ x < r then a x (xg j k y) else a x y
def cbN (M k j t : Nat) (a : Nat → Nat → Nat) (r x y : Nat) : Nat := if k ≤ x ∧ x < r ∧ y = j then subN (a x j) (t * a x k % M) M else a x y
end Go.Proofs.Yteanhbldhaiekaa

