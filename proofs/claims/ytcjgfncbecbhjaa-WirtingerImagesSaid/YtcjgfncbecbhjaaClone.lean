/-
  The contract of slices.Clone at slices of integers: a fresh row of the same integers.
-/
import Derived.Test.YtcjgfncbecbhjaaBase
namespace Go.Proofs.Ytcjgfncbecbhjaa
open Go.RowKit

end Go.Proofs.Ytcjgfncbecbhjaa

