/-
  No cell of these rows narrows 'for every input' (looked for: loops, veiled, ifaces, maps, wideKeys, modest, calm, conditions, laid).
  DERIVED. THE GIVEN ROWS OF THIS SEAT. 8 by the template 'for every input the law returns true; each argument reads behind the call as it read before'; 0 by the template 'total and deterministic' (their statements: YtjlokbolmindgaaTotals.lean).
  GIVEN WITH THE SEED: the statements are not yours to turn. If you find one false, say at which input.
  Laid BY PROGRAM, IN A SANDBOX (cutbox-rows.mjs): the forced cells as the released guide's own fill.sh prints them over the translation 84ff47b2c062a7a1… (all of the seat's roots in one cut). By AI agents, Wed Nov 11 2026. No macro, syntax, notation, axiom, sorry.
-/
import Derived.Test.YtjlokbolmindgaaChecked
import GoSem.Claim
import GoSem.ClaimJoined
import GoSem.ClaimMapViews
import Derived.JoinedTies
import Derived.KernelRfl
namespace Go.Proofs.Ytjlokbolmindgaa
/- THE CELL 'sum', in the pinned program and in every row, IS THE sha256 OF THE DUMP (.gsa) THAT YtjlokbolmindgaaProg.lean LOADS. Nothing in Lean hashes anything: it is a label: what it is worth is what the hold of that sum in a sandbox is worth. -/
noncomputable def Try.pinned : Pinned := { name := "ytjlokbolmindgaa", sum := "84ff47b2c062a7a13e639849c8cdecdc740250f4d6906e9ef631d2981c85fc25", checked := Try.checked }
namespace Rows
def none {H : Type} : Left H := { results := [], args := [] }

/-- 'unravellaw26.IntmatrixRows': WHATEVER THE INPUT: true; the input reads as it did. -/
def intmatrixRowsSpec : ChangeSpec := { name := "intmatrixRows", fn := fun _ => fun
  | [d1, d2, d3, d4] => { results := [.lit (.bool true)], args := [d1, d2, d3, d4] }
  | _ => none }
def intmatrixRowsRow : OpenClaim := { program := "ytjlokbolmindgaa", sum := "84ff47b2c062a7a13e639849c8cdecdc740250f4d6906e9ef631d2981c85fc25", func := "unravel/unravellaw26.IntmatrixRows", spec := "intmatrixRows", unfollowed := true, recurses := true, named := ["math/bits.divideError", "math/bits.overflowError"], apart := false }
def IntmatrixRowsSaid : Prop := intmatrixRowsRow.holds Try.pinned (OpenSpec.ofChange intmatrixRowsSpec)

/-- ITS FALSE NEIGHBOUR: 'it returns false'. Refute it at one input. -/
def intmatrixRowsWrong : ChangeSpec := { name := "intmatrixRows", fn := fun _ => fun
  | [d1, d2, d3, d4] => { results := [.lit (.bool false)], args := [d1, d2, d3, d4] }
  | _ => none }
def IntmatrixRowsWrongFalsely : Prop := intmatrixRowsRow.holds Try.pinned (OpenSpec.ofChange intmatrixRowsWrong)

/-- 'unravellaw26.IntmatrixKernel': WHATEVER THE INPUT: true; the input reads as it did. -/
def intmatrixKernelSpec : ChangeSpec := { name := "intmatrixKernel", fn := fun _ => fun
  | [d1, d2] => { results := [.lit (.bool true)], args := [d1, d2] }
  | _ => none }
def intmatrixKernelRow : OpenClaim := { program := "ytjlokbolmindgaa", sum := "84ff47b2c062a7a13e639849c8cdecdc740250f4d6906e9ef631d2981c85fc25", func := "unravel/unravellaw26.IntmatrixKernel", spec := "intmatrixKernel", unfollowed := true, recurses := true, named := ["math/bits.divideError", "math/bits.overflowError"], apart := false }
def IntmatrixKernelSaid : Prop := intmatrixKernelRow.holds Try.pinned (OpenSpec.ofChange intmatrixKernelSpec)

/-- ITS FALSE NEIGHBOUR: 'it returns false'. Refute it at one input. -/
def intmatrixKernelWrong : ChangeSpec := { name := "intmatrixKernel", fn := fun _ => fun
  | [d1, d2] => { results := [.lit (.bool false)], args := [d1, d2] }
  | _ => none }
def IntmatrixKernelWrongFalsely : Prop := intmatrixKernelRow.holds Try.pinned (OpenSpec.ofChange intmatrixKernelWrong)

/-- 'unravellaw26.IntmatrixSolutions': WHATEVER THE INPUT: true; the input reads as it did. -/
def intmatrixSolutionsSpec : ChangeSpec := { name := "intmatrixSolutions", fn := fun _ => fun
  | [d1, d2] => { results := [.lit (.bool true)], args := [d1, d2] }
  | _ => none }
def intmatrixSolutionsRow : OpenClaim := { program := "ytjlokbolmindgaa", sum := "84ff47b2c062a7a13e639849c8cdecdc740250f4d6906e9ef631d2981c85fc25", func := "unravel/unravellaw26.IntmatrixSolutions", spec := "intmatrixSolutions", unfollowed := true, recurses := true, named := ["math/bits.divideError", "math/bits.overflowError"], apart := false }
def IntmatrixSolutionsSaid : Prop := intmatrixSolutionsRow.holds Try.pinned (OpenSpec.ofChange intmatrixSolutionsSpec)

/-- ITS FALSE NEIGHBOUR: 'it returns false'. Refute it at one input. -/
def intmatrixSolutionsWrong : ChangeSpec := { name := "intmatrixSolutions", fn := fun _ => fun
  | [d1, d2] => { results := [.lit (.bool false)], args := [d1, d2] }
  | _ => none }
def IntmatrixSolutionsWrongFalsely : Prop := intmatrixSolutionsRow.holds Try.pinned (OpenSpec.ofChange intmatrixSolutionsWrong)

/-- 'unravellaw26.IntmatrixMinors': WHATEVER THE INPUT: true; the input reads as it did. -/
def intmatrixMinorsSpec : ChangeSpec := { name := "intmatrixMinors", fn := fun _ => fun
  | [d] => { results := [.lit (.bool true)], args := [d] }
  | _ => none }
def intmatrixMinorsRow : OpenClaim := { program := "ytjlokbolmindgaa", sum := "84ff47b2c062a7a13e639849c8cdecdc740250f4d6906e9ef631d2981c85fc25", func := "unravel/unravellaw26.IntmatrixMinors", spec := "intmatrixMinors", unfollowed := true, recurses := true, named := ["math/bits.divideError", "math/bits.overflowError"], apart := false }
def IntmatrixMinorsSaid : Prop := intmatrixMinorsRow.holds Try.pinned (OpenSpec.ofChange intmatrixMinorsSpec)

/-- ITS FALSE NEIGHBOUR: 'it returns false'. Refute it at one input. -/
def intmatrixMinorsWrong : ChangeSpec := { name := "intmatrixMinors", fn := fun _ => fun
  | [d] => { results := [.lit (.bool false)], args := [d] }
  | _ => none }
def IntmatrixMinorsWrongFalsely : Prop := intmatrixMinorsRow.holds Try.pinned (OpenSpec.ofChange intmatrixMinorsWrong)

/-- 'unravellaw26.IntmatrixDivides': WHATEVER THE INPUT: true; the input reads as it did. -/
def intmatrixDividesSpec : ChangeSpec := { name := "intmatrixDivides", fn := fun _ => fun
  | [d] => { results := [.lit (.bool true)], args := [d] }
  | _ => none }
def intmatrixDividesRow : OpenClaim := { program := "ytjlokbolmindgaa", sum := "84ff47b2c062a7a13e639849c8cdecdc740250f4d6906e9ef631d2981c85fc25", func := "unravel/unravellaw26.IntmatrixDivides", spec := "intmatrixDivides", unfollowed := true, recurses := true, named := ["math/bits.divideError", "math/bits.overflowError"], apart := false }
def IntmatrixDividesSaid : Prop := intmatrixDividesRow.holds Try.pinned (OpenSpec.ofChange intmatrixDividesSpec)

/-- ITS FALSE NEIGHBOUR: 'it returns false'. Refute it at one input. -/
def intmatrixDividesWrong : ChangeSpec := { name := "intmatrixDivides", fn := fun _ => fun
  | [d] => { results := [.lit (.bool false)], args := [d] }
  | _ => none }
def IntmatrixDividesWrongFalsely : Prop := intmatrixDividesRow.holds Try.pinned (OpenSpec.ofChange intmatrixDividesWrong)

/-- 'unravellaw26.IntmatrixTransposes': WHATEVER THE INPUT: true; the input reads as it did. -/
def intmatrixTransposesSpec : ChangeSpec := { name := "intmatrixTransposes", fn := fun _ => fun
  | [d] => { results := [.lit (.bool true)], args := [d] }
  | _ => none }
def intmatrixTransposesRow : OpenClaim := { program := "ytjlokbolmindgaa", sum := "84ff47b2c062a7a13e639849c8cdecdc740250f4d6906e9ef631d2981c85fc25", func := "unravel/unravellaw26.IntmatrixTransposes", spec := "intmatrixTransposes", unfollowed := true, recurses := true, named := ["math/bits.divideError", "math/bits.overflowError"], apart := false }
def IntmatrixTransposesSaid : Prop := intmatrixTransposesRow.holds Try.pinned (OpenSpec.ofChange intmatrixTransposesSpec)

/-- ITS FALSE NEIGHBOUR: 'it returns false'. Refute it at one input. -/
def intmatrixTransposesWrong : ChangeSpec := { name := "intmatrixTransposes", fn := fun _ => fun
  | [d] => { results := [.lit (.bool false)], args := [d] }
  | _ => none }
def IntmatrixTransposesWrongFalsely : Prop := intmatrixTransposesRow.holds Try.pinned (OpenSpec.ofChange intmatrixTransposesWrong)

/-- 'unravellaw26.IntmatrixProducts': WHATEVER THE INPUT: true; the input reads as it did. -/
def intmatrixProductsSpec : ChangeSpec := { name := "intmatrixProducts", fn := fun _ => fun
  | [d1, d2] => { results := [.lit (.bool true)], args := [d1, d2] }
  | _ => none }
def intmatrixProductsRow : OpenClaim := { program := "ytjlokbolmindgaa", sum := "84ff47b2c062a7a13e639849c8cdecdc740250f4d6906e9ef631d2981c85fc25", func := "unravel/unravellaw26.IntmatrixProducts", spec := "intmatrixProducts", unfollowed := true, recurses := true, named := ["math/bits.divideError", "math/bits.overflowError"], apart := false }
def IntmatrixProductsSaid : Prop := intmatrixProductsRow.holds Try.pinned (OpenSpec.ofChange intmatrixProductsSpec)

/-- ITS FALSE NEIGHBOUR: 'it returns false'. Refute it at one input. -/
def intmatrixProductsWrong : ChangeSpec := { name := "intmatrixProducts", fn := fun _ => fun
  | [d1, d2] => { results := [.lit (.bool false)], args := [d1, d2] }
  | _ => none }
def IntmatrixProductsWrongFalsely : Prop := intmatrixProductsRow.holds Try.pinned (OpenSpec.ofChange intmatrixProductsWrong)

/-- 'unravellaw26.IntmatrixRefuses': WHATEVER THE INPUT: true; the input reads as it did. -/
def intmatrixRefusesSpec : ChangeSpec := { name := "intmatrixRefuses", fn := fun _ => fun
  | [d1, d2] => { results := [.lit (.bool true)], args := [d1, d2] }
  | _ => none }
def intmatrixRefusesRow : OpenClaim := { program := "ytjlokbolmindgaa", sum := "84ff47b2c062a7a13e639849c8cdecdc740250f4d6906e9ef631d2981c85fc25", func := "unravel/unravellaw26.IntmatrixRefuses", spec := "intmatrixRefuses", unfollowed := true, recurses := true, named := ["math/bits.divideError", "math/bits.overflowError"], apart := false }
def IntmatrixRefusesSaid : Prop := intmatrixRefusesRow.holds Try.pinned (OpenSpec.ofChange intmatrixRefusesSpec)

/-- ITS FALSE NEIGHBOUR: 'it returns false'. Refute it at one input. -/
def intmatrixRefusesWrong : ChangeSpec := { name := "intmatrixRefuses", fn := fun _ => fun
  | [d1, d2] => { results := [.lit (.bool false)], args := [d1, d2] }
  | _ => none }
def IntmatrixRefusesWrongFalsely : Prop := intmatrixRefusesRow.holds Try.pinned (OpenSpec.ofChange intmatrixRefusesWrong)

/- THE SECOND FORM. 'bulk': how many values and letters a reading holds, each counted each time it is reached (what is shared counts as often as it is met; a slice's spare places count too). A statement '..UptoSaid' is the law's where the arguments, and the package variables that the reading takes, are together of bulk at most 1048576: NARROWER than '..Said'. Prove '..Said' where nothing that the law and all that it calls make is longer than what came in: it says more and counts as full. Else prove '..UptoSaid'. A law counts once. -/
mutual
def uptoBulk {H : Type} : DataW H → Nat
  | .lit (.string bytes) => bytes.length + 1
  | .lit _ => 1
  | .nil => 1
  | .ptr d => uptoBulk d + 1
  | .slice elems spare => uptoBulkAll elems + uptoBulkAll spare + 1
  | .agg parts => uptoBulkAll parts + 1
  | .iface _ d => uptoBulk d + 1
  | .map entries => uptoBulkEntries entries + 1
  | .held _ => 1
def uptoBulkAll {H : Type} : List (DataW H) → Nat
  | [] => 0
  | d :: r => uptoBulk d + uptoBulkAll r
def uptoBulkEntries {H : Type} : List (Lit × DataW H) → Nat
  | [] => 0
  | x :: r => uptoBulkEntry x + uptoBulkEntries r
def uptoBulkEntry {H : Type} : Lit × DataW H → Nat
  | (.string bytes, d) => bytes.length + uptoBulk d + 1
  | (_, d) => uptoBulk d + 1
 end
def uptoSmall : (H : Type) → List (DataW H) → Bool := fun _ ds => decide (uptoBulkAll ds ≤ 1048576)
def OpenSpec.upto (s : _root_.Go.ChangeSpec) : _root_.Go.OpenSpec := { _root_.Go.OpenSpec.ofChange s with cond := some uptoSmall }

/-- 'unravellaw26.IntmatrixRows', WHERE WHAT IT READS IS OF BULK AT MOST 1048576: true; the input reads as it did. -/
def intmatrixRowsUptoRow : OpenClaim := { program := "ytjlokbolmindgaa", sum := "84ff47b2c062a7a13e639849c8cdecdc740250f4d6906e9ef631d2981c85fc25", func := "unravel/unravellaw26.IntmatrixRows", spec := "intmatrixRows", unfollowed := true, recurses := true, named := ["math/bits.divideError", "math/bits.overflowError"], apart := false, narrowed := true }
def IntmatrixRowsUptoSaid : Prop := intmatrixRowsUptoRow.holds Try.pinned (OpenSpec.upto intmatrixRowsSpec)

/-- 'unravellaw26.IntmatrixKernel', WHERE WHAT IT READS IS OF BULK AT MOST 1048576: true; the input reads as it did. -/
def intmatrixKernelUptoRow : OpenClaim := { program := "ytjlokbolmindgaa", sum := "84ff47b2c062a7a13e639849c8cdecdc740250f4d6906e9ef631d2981c85fc25", func := "unravel/unravellaw26.IntmatrixKernel", spec := "intmatrixKernel", unfollowed := true, recurses := true, named := ["math/bits.divideError", "math/bits.overflowError"], apart := false, narrowed := true }
def IntmatrixKernelUptoSaid : Prop := intmatrixKernelUptoRow.holds Try.pinned (OpenSpec.upto intmatrixKernelSpec)

/-- 'unravellaw26.IntmatrixSolutions', WHERE WHAT IT READS IS OF BULK AT MOST 1048576: true; the input reads as it did. -/
def intmatrixSolutionsUptoRow : OpenClaim := { program := "ytjlokbolmindgaa", sum := "84ff47b2c062a7a13e639849c8cdecdc740250f4d6906e9ef631d2981c85fc25", func := "unravel/unravellaw26.IntmatrixSolutions", spec := "intmatrixSolutions", unfollowed := true, recurses := true, named := ["math/bits.divideError", "math/bits.overflowError"], apart := false, narrowed := true }
def IntmatrixSolutionsUptoSaid : Prop := intmatrixSolutionsUptoRow.holds Try.pinned (OpenSpec.upto intmatrixSolutionsSpec)

/-- 'unravellaw26.IntmatrixMinors', WHERE WHAT IT READS IS OF BULK AT MOST 1048576: true; the input reads as it did. -/
def intmatrixMinorsUptoRow : OpenClaim := { program := "ytjlokbolmindgaa", sum := "84ff47b2c062a7a13e639849c8cdecdc740250f4d6906e9ef631d2981c85fc25", func := "unravel/unravellaw26.IntmatrixMinors", spec := "intmatrixMinors", unfollowed := true, recurses := true, named := ["math/bits.divideError", "math/bits.overflowError"], apart := false, narrowed := true }
def IntmatrixMinorsUptoSaid : Prop := intmatrixMinorsUptoRow.holds Try.pinned (OpenSpec.upto intmatrixMinorsSpec)

/-- 'unravellaw26.IntmatrixDivides', WHERE WHAT IT READS IS OF BULK AT MOST 1048576: true; the input reads as it did. -/
def intmatrixDividesUptoRow : OpenClaim := { program := "ytjlokbolmindgaa", sum := "84ff47b2c062a7a13e639849c8cdecdc740250f4d6906e9ef631d2981c85fc25", func := "unravel/unravellaw26.IntmatrixDivides", spec := "intmatrixDivides", unfollowed := true, recurses := true, named := ["math/bits.divideError", "math/bits.overflowError"], apart := false, narrowed := true }
def IntmatrixDividesUptoSaid : Prop := intmatrixDividesUptoRow.holds Try.pinned (OpenSpec.upto intmatrixDividesSpec)

/-- 'unravellaw26.IntmatrixTransposes', WHERE WHAT IT READS IS OF BULK AT MOST 1048576: true; the input reads as it did. -/
def intmatrixTransposesUptoRow : OpenClaim := { program := "ytjlokbolmindgaa", sum := "84ff47b2c062a7a13e639849c8cdecdc740250f4d6906e9ef631d2981c85fc25", func := "unravel/unravellaw26.IntmatrixTransposes", spec := "intmatrixTransposes", unfollowed := true, recurses := true, named := ["math/bits.divideError", "math/bits.overflowError"], apart := false, narrowed := true }
def IntmatrixTransposesUptoSaid : Prop := intmatrixTransposesUptoRow.holds Try.pinned (OpenSpec.upto intmatrixTransposesSpec)

/-- 'unravellaw26.IntmatrixProducts', WHERE WHAT IT READS IS OF BULK AT MOST 1048576: true; the input reads as it did. -/
def intmatrixProductsUptoRow : OpenClaim := { program := "ytjlokbolmindgaa", sum := "84ff47b2c062a7a13e639849c8cdecdc740250f4d6906e9ef631d2981c85fc25", func := "unravel/unravellaw26.IntmatrixProducts", spec := "intmatrixProducts", unfollowed := true, recurses := true, named := ["math/bits.divideError", "math/bits.overflowError"], apart := false, narrowed := true }
def IntmatrixProductsUptoSaid : Prop := intmatrixProductsUptoRow.holds Try.pinned (OpenSpec.upto intmatrixProductsSpec)

/-- 'unravellaw26.IntmatrixRefuses', WHERE WHAT IT READS IS OF BULK AT MOST 1048576: true; the input reads as it did. -/
def intmatrixRefusesUptoRow : OpenClaim := { program := "ytjlokbolmindgaa", sum := "84ff47b2c062a7a13e639849c8cdecdc740250f4d6906e9ef631d2981c85fc25", func := "unravel/unravellaw26.IntmatrixRefuses", spec := "intmatrixRefuses", unfollowed := true, recurses := true, named := ["math/bits.divideError", "math/bits.overflowError"], apart := false, narrowed := true }
def IntmatrixRefusesUptoSaid : Prop := intmatrixRefusesUptoRow.holds Try.pinned (OpenSpec.upto intmatrixRefusesSpec)

end Rows
end Go.Proofs.Ytjlokbolmindgaa
