/-
  The contract of slices.Equal at slices of integers.
-/
import Derived.Test.YteanhbldhaiekaaBase
namespace Go.Proofs.Yteanhbldhaiekaa
open Go.RowKit

end Go.Proofs.Yteanhbldhaiekaa

