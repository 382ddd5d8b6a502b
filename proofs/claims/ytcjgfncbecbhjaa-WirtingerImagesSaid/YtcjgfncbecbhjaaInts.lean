/-
  The contract of the reference's Ints: it tells whether two slices hold the same integers.
-/
import Derived.Test.YtcjgfncbecbhjaaBase
namespace Go.Proofs.Ytcjgfncbecbhjaa
open Go.RowKit

end Go.Proofs.Ytcjgfncbecbhjaa

