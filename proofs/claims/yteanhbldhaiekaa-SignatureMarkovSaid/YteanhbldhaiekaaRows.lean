/-
  No cell of these rows narrows 'for every input' (looked for: loops, veiled, ifaces, maps, wideKeys, modest, calm, conditions, laid).
  DERIVED. THE GIVEN ROWS OF THIS SEAT. 8 by the template 'for every input the law returns true; each argument reads behind the call as it read before'; 0 by the template 'total and deterministic' (their statements: YteanhbldhaiekaaTotals.lean).
  GIVEN WITH THE SEED: the statements are not yours to turn. If you find one false, say at which input.
  Laid BY PROGRAM, IN A SANDBOX (cutbox-rows.mjs): the forced cells as the released guide's own fill.sh prints them over the translation 34dafae0e3a94255… (all of the seat's roots in one cut). By AI agents, Wed Nov 11 2026. No macro, syntax, notation, axiom, sorry.
-/
import Derived.Test.YteanhbldhaiekaaChecked
import GoSem.Claim
import GoSem.ClaimJoined
import GoSem.ClaimMapViews
import Derived.JoinedTies
import Derived.KernelRfl
namespace Go.Proofs.Yteanhbldhaiekaa
/- THE CELL 'sum', in the pinned program and in every row, IS THE sha256 OF THE DUMP (.gsa) THAT YteanhbldhaiekaaProg.lean LOADS. Nothing in Lean hashes anything: it is a label: what it is worth is what the hold of that sum in a sandbox is worth. -/
noncomputable def Try.pinned : Pinned := { name := "yteanhbldhaiekaa", sum := "34dafae0e3a942558ed21beaf197435c7f0c831b2bf6012a4510798f5b93b8af", checked := Try.checked }
namespace Rows
def none {H : Type} : Left H := { results := [], args := [] }

/-- 'unravellaw39.SignatureInertia': WHATEVER THE INPUT: true; the input reads as it did. -/
def signatureInertiaSpec : ChangeSpec := { name := "signatureInertia", fn := fun _ => fun
  | [d] => { results := [.lit (.bool true)], args := [d] }
  | _ => none }
def signatureInertiaRow : OpenClaim := { program := "yteanhbldhaiekaa", sum := "34dafae0e3a942558ed21beaf197435c7f0c831b2bf6012a4510798f5b93b8af", func := "unravel/unravellaw39.SignatureInertia", spec := "signatureInertia", inPlace := ["math/bits.Sub64"], unfollowed := true, recurses := true, named := ["math/bits.divideError", "math/bits.overflowError"], apart := false }
def SignatureInertiaSaid : Prop := signatureInertiaRow.holds Try.pinned (OpenSpec.ofChange signatureInertiaSpec)

/-- ITS FALSE NEIGHBOUR: 'it returns false'. Refute it at one input. -/
def signatureInertiaWrong : ChangeSpec := { name := "signatureInertia", fn := fun _ => fun
  | [d] => { results := [.lit (.bool false)], args := [d] }
  | _ => none }
def SignatureInertiaWrongFalsely : Prop := signatureInertiaRow.holds Try.pinned (OpenSpec.ofChange signatureInertiaWrong)

/-- 'unravellaw39.SignatureBlocks': WHATEVER THE INPUT: true; the input reads as it did. -/
def signatureBlocksSpec : ChangeSpec := { name := "signatureBlocks", fn := fun _ => fun
  | [d1, d2] => { results := [.lit (.bool true)], args := [d1, d2] }
  | _ => none }
def signatureBlocksRow : OpenClaim := { program := "yteanhbldhaiekaa", sum := "34dafae0e3a942558ed21beaf197435c7f0c831b2bf6012a4510798f5b93b8af", func := "unravel/unravellaw39.SignatureBlocks", spec := "signatureBlocks", inPlace := ["math/bits.Sub64"], unfollowed := true, recurses := true, named := ["math/bits.divideError", "math/bits.overflowError"], apart := false }
def SignatureBlocksSaid : Prop := signatureBlocksRow.holds Try.pinned (OpenSpec.ofChange signatureBlocksSpec)

/-- ITS FALSE NEIGHBOUR: 'it returns false'. Refute it at one input. -/
def signatureBlocksWrong : ChangeSpec := { name := "signatureBlocks", fn := fun _ => fun
  | [d1, d2] => { results := [.lit (.bool false)], args := [d1, d2] }
  | _ => none }
def SignatureBlocksWrongFalsely : Prop := signatureBlocksRow.holds Try.pinned (OpenSpec.ofChange signatureBlocksWrong)

/-- 'unravellaw39.SignatureNegates': WHATEVER THE INPUT: true; the input reads as it did. -/
def signatureNegatesSpec : ChangeSpec := { name := "signatureNegates", fn := fun _ => fun
  | [d1, d2] => { results := [.lit (.bool true)], args := [d1, d2] }
  | _ => none }
def signatureNegatesRow : OpenClaim := { program := "yteanhbldhaiekaa", sum := "34dafae0e3a942558ed21beaf197435c7f0c831b2bf6012a4510798f5b93b8af", func := "unravel/unravellaw39.SignatureNegates", spec := "signatureNegates", inPlace := ["math/bits.Sub64"], unfollowed := true, recurses := true, named := ["math/bits.divideError", "math/bits.overflowError"], apart := false }
def SignatureNegatesSaid : Prop := signatureNegatesRow.holds Try.pinned (OpenSpec.ofChange signatureNegatesSpec)

/-- ITS FALSE NEIGHBOUR: 'it returns false'. Refute it at one input. -/
def signatureNegatesWrong : ChangeSpec := { name := "signatureNegates", fn := fun _ => fun
  | [d1, d2] => { results := [.lit (.bool false)], args := [d1, d2] }
  | _ => none }
def SignatureNegatesWrongFalsely : Prop := signatureNegatesRow.holds Try.pinned (OpenSpec.ofChange signatureNegatesWrong)

/-- 'unravellaw39.SignatureOf': WHATEVER THE INPUT: true; the input reads as it did. -/
def signatureOfSpec : ChangeSpec := { name := "signatureOf", fn := fun _ => fun
  | [d] => { results := [.lit (.bool true)], args := [d] }
  | _ => none }
def signatureOfRow : OpenClaim := { program := "yteanhbldhaiekaa", sum := "34dafae0e3a942558ed21beaf197435c7f0c831b2bf6012a4510798f5b93b8af", func := "unravel/unravellaw39.SignatureOf", spec := "signatureOf", inPlace := ["math/bits.Sub64"], unfollowed := true, recurses := true, named := ["math/bits.divideError", "math/bits.overflowError"], apart := false }
def SignatureOfSaid : Prop := signatureOfRow.holds Try.pinned (OpenSpec.ofChange signatureOfSpec)

/-- ITS FALSE NEIGHBOUR: 'it returns false'. Refute it at one input. -/
def signatureOfWrong : ChangeSpec := { name := "signatureOf", fn := fun _ => fun
  | [d] => { results := [.lit (.bool false)], args := [d] }
  | _ => none }
def SignatureOfWrongFalsely : Prop := signatureOfRow.holds Try.pinned (OpenSpec.ofChange signatureOfWrong)

/-- 'unravellaw39.SignatureRank': WHATEVER THE INPUT: true; the input reads as it did. -/
def signatureRankSpec : ChangeSpec := { name := "signatureRank", fn := fun _ => fun
  | [d] => { results := [.lit (.bool true)], args := [d] }
  | _ => none }
def signatureRankRow : OpenClaim := { program := "yteanhbldhaiekaa", sum := "34dafae0e3a942558ed21beaf197435c7f0c831b2bf6012a4510798f5b93b8af", func := "unravel/unravellaw39.SignatureRank", spec := "signatureRank", inPlace := ["math/bits.Sub64"], unfollowed := true, recurses := true, named := ["math/bits.divideError", "math/bits.overflowError"], apart := false }
def SignatureRankSaid : Prop := signatureRankRow.holds Try.pinned (OpenSpec.ofChange signatureRankSpec)

/-- ITS FALSE NEIGHBOUR: 'it returns false'. Refute it at one input. -/
def signatureRankWrong : ChangeSpec := { name := "signatureRank", fn := fun _ => fun
  | [d] => { results := [.lit (.bool false)], args := [d] }
  | _ => none }
def SignatureRankWrongFalsely : Prop := signatureRankRow.holds Try.pinned (OpenSpec.ofChange signatureRankWrong)

/-- 'unravellaw39.SignatureInvariant': WHATEVER THE INPUT: true; the input reads as it did. -/
def signatureInvariantSpec : ChangeSpec := { name := "signatureInvariant", fn := fun _ => fun
  | [d1, d2] => { results := [.lit (.bool true)], args := [d1, d2] }
  | _ => none }
def signatureInvariantRow : OpenClaim := { program := "yteanhbldhaiekaa", sum := "34dafae0e3a942558ed21beaf197435c7f0c831b2bf6012a4510798f5b93b8af", func := "unravel/unravellaw39.SignatureInvariant", spec := "signatureInvariant", inPlace := ["math/bits.Sub64"], unfollowed := true, recurses := true, named := ["math/bits.divideError", "math/bits.overflowError"], apart := false }
def SignatureInvariantSaid : Prop := signatureInvariantRow.holds Try.pinned (OpenSpec.ofChange signatureInvariantSpec)

/-- ITS FALSE NEIGHBOUR: 'it returns false'. Refute it at one input. -/
def signatureInvariantWrong : ChangeSpec := { name := "signatureInvariant", fn := fun _ => fun
  | [d1, d2] => { results := [.lit (.bool false)], args := [d1, d2] }
  | _ => none }
def SignatureInvariantWrongFalsely : Prop := signatureInvariantRow.holds Try.pinned (OpenSpec.ofChange signatureInvariantWrong)

/-- 'unravellaw39.SignatureCongruent': WHATEVER THE INPUT: true; the input reads as it did. -/
def signatureCongruentSpec : ChangeSpec := { name := "signatureCongruent", fn := fun _ => fun
  | [d1, d2] => { results := [.lit (.bool true)], args := [d1, d2] }
  | _ => none }
def signatureCongruentRow : OpenClaim := { program := "yteanhbldhaiekaa", sum := "34dafae0e3a942558ed21beaf197435c7f0c831b2bf6012a4510798f5b93b8af", func := "unravel/unravellaw39.SignatureCongruent", spec := "signatureCongruent", inPlace := ["math/bits.Sub64"], unfollowed := true, recurses := true, named := ["math/bits.divideError", "math/bits.overflowError"], apart := false }
def SignatureCongruentSaid : Prop := signatureCongruentRow.holds Try.pinned (OpenSpec.ofChange signatureCongruentSpec)

/-- ITS FALSE NEIGHBOUR: 'it returns false'. Refute it at one input. -/
def signatureCongruentWrong : ChangeSpec := { name := "signatureCongruent", fn := fun _ => fun
  | [d1, d2] => { results := [.lit (.bool false)], args := [d1, d2] }
  | _ => none }
def SignatureCongruentWrongFalsely : Prop := signatureCongruentRow.holds Try.pinned (OpenSpec.ofChange signatureCongruentWrong)

/-- 'unravellaw39.SignatureMarkov': WHATEVER THE INPUT: true; the input reads as it did. -/
def signatureMarkovSpec : ChangeSpec := { name := "signatureMarkov", fn := fun _ => fun
  | [d1, d2] => { results := [.lit (.bool true)], args := [d1, d2] }
  | _ => none }
def signatureMarkovRow : OpenClaim := { program := "yteanhbldhaiekaa", sum := "34dafae0e3a942558ed21beaf197435c7f0c831b2bf6012a4510798f5b93b8af", func := "unravel/unravellaw39.SignatureMarkov", spec := "signatureMarkov", inPlace := ["math/bits.Sub64", "slices.overlaps[int]"], unfollowed := true, recurses := true, named := ["math/bits.divideError", "math/bits.overflowError"], apart := false }
def SignatureMarkovSaid : Prop := signatureMarkovRow.holds Try.pinned (OpenSpec.ofChange signatureMarkovSpec)

/-- ITS FALSE NEIGHBOUR: 'it returns false'. Refute it at one input. -/
def signatureMarkovWrong : ChangeSpec := { name := "signatureMarkov", fn := fun _ => fun
  | [d1, d2] => { results := [.lit (.bool false)], args := [d1, d2] }
  | _ => none }
def SignatureMarkovWrongFalsely : Prop := signatureMarkovRow.holds Try.pinned (OpenSpec.ofChange signatureMarkovWrong)

/- THE SECOND FORM. 'bulk': how many values and letters a reading holds, each counted each time it is reached (what is shared counts as often as it is met; a slice's spare places count too). A statement '..UptoSaid' is the law's where the arguments, and the package variables that the reading takes, are together of bulk at most 1048576: NARROWER than '..Said'. Prove '..Said' where nothing that the law and all that it calls make is longer than what came in: it says more and counts as full. Else prove '..UptoSaid'. A law counts once. -/
mutual
def uptoBulk {H : Type} : DataW H → Nat
  | .lit (.string bytes) => bytes.length + 1
  | .lit _ => 1
  | .nil => 1
  | .ptr d => uptoBulk d + 1
  | .slice elems spare => uptoBulkAll elems + uptoBulkAll spare + 1
  | .agg parts => uptoBulkAll parts + 1
  | .iface _ d => uptoBulk d + 1
  | .map entries => uptoBulkEntries entries + 1
  | .held _ => 1
def uptoBulkAll {H : Type} : List (DataW H) → Nat
  | [] => 0
  | d :: r => uptoBulk d + uptoBulkAll r
def uptoBulkEntries {H : Type} : List (Lit × DataW H) → Nat
  | [] => 0
  | x :: r => uptoBulkEntry x + uptoBulkEntries r
def uptoBulkEntry {H : Type} : Lit × DataW H → Nat
  | (.string bytes, d) => bytes.length + uptoBulk d + 1
  | (_, d) => uptoBulk d + 1
 end
def uptoSmall : (H : Type) → List (DataW H) → Bool := fun _ ds => decide (uptoBulkAll ds ≤ 1048576)
def OpenSpec.upto (s : _root_.Go.ChangeSpec) : _root_.Go.OpenSpec := { _root_.Go.OpenSpec.ofChange s with cond := some uptoSmall }

/-- 'unravellaw39.SignatureInertia', WHERE WHAT IT READS IS OF BULK AT MOST 1048576: true; the input reads as it did. -/
def signatureInertiaUptoRow : OpenClaim := { program := "yteanhbldhaiekaa", sum := "34dafae0e3a942558ed21beaf197435c7f0c831b2bf6012a4510798f5b93b8af", func := "unravel/unravellaw39.SignatureInertia", spec := "signatureInertia", inPlace := ["math/bits.Sub64"], unfollowed := true, recurses := true, named := ["math/bits.divideError", "math/bits.overflowError"], apart := false, narrowed := true }
def SignatureInertiaUptoSaid : Prop := signatureInertiaUptoRow.holds Try.pinned (OpenSpec.upto signatureInertiaSpec)

/-- 'unravellaw39.SignatureBlocks', WHERE WHAT IT READS IS OF BULK AT MOST 1048576: true; the input reads as it did. -/
def signatureBlocksUptoRow : OpenClaim := { program := "yteanhbldhaiekaa", sum := "34dafae0e3a942558ed21beaf197435c7f0c831b2bf6012a4510798f5b93b8af", func := "unravel/unravellaw39.SignatureBlocks", spec := "signatureBlocks", inPlace := ["math/bits.Sub64"], unfollowed := true, recurses := true, named := ["math/bits.divideError", "math/bits.overflowError"], apart := false, narrowed := true }
def SignatureBlocksUptoSaid : Prop := signatureBlocksUptoRow.holds Try.pinned (OpenSpec.upto signatureBlocksSpec)

/-- 'unravellaw39.SignatureNegates', WHERE WHAT IT READS IS OF BULK AT MOST 1048576: true; the input reads as it did. -/
def signatureNegatesUptoRow : OpenClaim := { program := "yteanhbldhaiekaa", sum := "34dafae0e3a942558ed21beaf197435c7f0c831b2bf6012a4510798f5b93b8af", func := "unravel/unravellaw39.SignatureNegates", spec := "signatureNegates", inPlace := ["math/bits.Sub64"], unfollowed := true, recurses := true, named := ["math/bits.divideError", "math/bits.overflowError"], apart := false, narrowed := true }
def SignatureNegatesUptoSaid : Prop := signatureNegatesUptoRow.holds Try.pinned (OpenSpec.upto signatureNegatesSpec)

/-- 'unravellaw39.SignatureOf', WHERE WHAT IT READS IS OF BULK AT MOST 1048576: true; the input reads as it did. -/
def signatureOfUptoRow : OpenClaim := { program := "yteanhbldhaiekaa", sum := "34dafae0e3a942558ed21beaf197435c7f0c831b2bf6012a4510798f5b93b8af", func := "unravel/unravellaw39.SignatureOf", spec := "signatureOf", inPlace := ["math/bits.Sub64"], unfollowed := true, recurses := true, named := ["math/bits.divideError", "math/bits.overflowError"], apart := false, narrowed := true }
def SignatureOfUptoSaid : Prop := signatureOfUptoRow.holds Try.pinned (OpenSpec.upto signatureOfSpec)

/-- 'unravellaw39.SignatureRank', WHERE WHAT IT READS IS OF BULK AT MOST 1048576: true; the input reads as it did. -/
def signatureRankUptoRow : OpenClaim := { program := "yteanhbldhaiekaa", sum := "34dafae0e3a942558ed21beaf197435c7f0c831b2bf6012a4510798f5b93b8af", func := "unravel/unravellaw39.SignatureRank", spec := "signatureRank", inPlace := ["math/bits.Sub64"], unfollowed := true, recurses := true, named := ["math/bits.divideError", "math/bits.overflowError"], apart := false, narrowed := true }
def SignatureRankUptoSaid : Prop := signatureRankUptoRow.holds Try.pinned (OpenSpec.upto signatureRankSpec)

/-- 'unravellaw39.SignatureInvariant', WHERE WHAT IT READS IS OF BULK AT MOST 1048576: true; the input reads as it did. -/
def signatureInvariantUptoRow : OpenClaim := { program := "yteanhbldhaiekaa", sum := "34dafae0e3a942558ed21beaf197435c7f0c831b2bf6012a4510798f5b93b8af", func := "unravel/unravellaw39.SignatureInvariant", spec := "signatureInvariant", inPlace := ["math/bits.Sub64"], unfollowed := true, recurses := true, named := ["math/bits.divideError", "math/bits.overflowError"], apart := false, narrowed := true }
def SignatureInvariantUptoSaid : Prop := signatureInvariantUptoRow.holds Try.pinned (OpenSpec.upto signatureInvariantSpec)

/-- 'unravellaw39.SignatureCongruent', WHERE WHAT IT READS IS OF BULK AT MOST 1048576: true; the input reads as it did. -/
def signatureCongruentUptoRow : OpenClaim := { program := "yteanhbldhaiekaa", sum := "34dafae0e3a942558ed21beaf197435c7f0c831b2bf6012a4510798f5b93b8af", func := "unravel/unravellaw39.SignatureCongruent", spec := "signatureCongruent", inPlace := ["math/bits.Sub64"], unfollowed := true, recurses := true, named := ["math/bits.divideError", "math/bits.overflowError"], apart := false, narrowed := true }
def SignatureCongruentUptoSaid : Prop := signatureCongruentUptoRow.holds Try.pinned (OpenSpec.upto signatureCongruentSpec)

/-- 'unravellaw39.SignatureMarkov', WHERE WHAT IT READS IS OF BULK AT MOST 1048576: true; the input reads as it did. -/
def signatureMarkovUptoRow : OpenClaim := { program := "yteanhbldhaiekaa", sum := "34dafae0e3a942558ed21beaf197435c7f0c831b2bf6012a4510798f5b93b8af", func := "unravel/unravellaw39.SignatureMarkov", spec := "signatureMarkov", inPlace := ["math/bits.Sub64", "slices.overlaps[int]"], unfollowed := true, recurses := true, named := ["math/bits.divideError", "math/bits.overflowError"], apart := false, narrowed := true }
def SignatureMarkovUptoSaid : Prop := signatureMarkovUptoRow.holds Try.pinned (OpenSpec.upto signatureMarkovSpec)

end Rows
end Go.Proofs.Yteanhbldhaiekaa
