/-
  The contract of slices.Clone at slices of integers: a fresh row of the same integers.
-/
import Derived.Test.YtaghemilihaiaaaBase
namespace Go.Proofs.Ytaghemilihaiaaa
open Go.RowKit

end Go.Proofs.Ytaghemilihaiaaa

