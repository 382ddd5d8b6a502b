/-
  No cell of these rows narrows 'for every input' (looked for: loops, veiled, ifaces, maps, wideKeys, modest, calm, conditions, laid).
  DERIVED. THE GIVEN ROWS OF THIS SEAT. 9 by the template 'for every input the law returns true; each argument reads behind the call as it read before'; 0 by the template 'total and deterministic' (their statements: YtcjgfncbecbhjaaTotals.lean).
  GIVEN WITH THE SEED: the statements are not yours to turn. If you find one false, say at which input.
  Laid BY PROGRAM, IN A SANDBOX (cutbox-rows.mjs): the forced cells as the released guide's own fill.sh prints them over the translation c3fa75b121b1ec7c… (all of the seat's roots in one cut). By AI agents, Wed Nov 11 2026. No macro, syntax, notation, axiom, sorry.
-/
import Derived.Test.YtcjgfncbecbhjaaChecked
import GoSem.Claim
import GoSem.ClaimJoined
import GoSem.ClaimMapViews
import Derived.JoinedTies
import Derived.KernelRfl
namespace Go.Proofs.Ytcjgfncbecbhjaa
/- THE CELL 'sum', in the pinned program and in every row, IS THE sha256 OF THE DUMP (.gsa) THAT YtcjgfncbecbhjaaProg.lean LOADS. Nothing in Lean hashes anything: it is a label: what it is worth is what the hold of that sum in a sandbox is worth. -/
noncomputable def Try.pinned : Pinned := { name := "ytcjgfncbecbhjaa", sum := "c3fa75b121b1ec7c9f2dfd41f2574d4b3a71c0878a61bbdd7f0810feb6128904", checked := Try.checked }
namespace Rows
def none {H : Type} : Left H := { results := [], args := [] }

/-- 'unravellaw22.WirtingerArcs': WHATEVER THE INPUT: true; the input reads as it did. -/
def wirtingerArcsSpec : ChangeSpec := { name := "wirtingerArcs", fn := fun _ => fun
  | [d] => { results := [.lit (.bool true)], args := [d] }
  | _ => none }
def wirtingerArcsRow : OpenClaim := { program := "ytcjgfncbecbhjaa", sum := "c3fa75b121b1ec7c9f2dfd41f2574d4b3a71c0878a61bbdd7f0810feb6128904", func := "unravel/unravellaw22.WirtingerArcs", spec := "wirtingerArcs", unfollowed := true, recurses := true, apart := false }
def WirtingerArcsSaid : Prop := wirtingerArcsRow.holds Try.pinned (OpenSpec.ofChange wirtingerArcsSpec)

/-- ITS FALSE NEIGHBOUR: 'it returns false'. Refute it at one input. -/
def wirtingerArcsWrong : ChangeSpec := { name := "wirtingerArcs", fn := fun _ => fun
  | [d] => { results := [.lit (.bool false)], args := [d] }
  | _ => none }
def WirtingerArcsWrongFalsely : Prop := wirtingerArcsRow.holds Try.pinned (OpenSpec.ofChange wirtingerArcsWrong)

/-- 'unravellaw22.WirtingerOf': WHATEVER THE INPUT: true; the input reads as it did. -/
def wirtingerOfSpec : ChangeSpec := { name := "wirtingerOf", fn := fun _ => fun
  | [d] => { results := [.lit (.bool true)], args := [d] }
  | _ => none }
def wirtingerOfRow : OpenClaim := { program := "ytcjgfncbecbhjaa", sum := "c3fa75b121b1ec7c9f2dfd41f2574d4b3a71c0878a61bbdd7f0810feb6128904", func := "unravel/unravellaw22.WirtingerOf", spec := "wirtingerOf", unfollowed := true, recurses := true, apart := false }
def WirtingerOfSaid : Prop := wirtingerOfRow.holds Try.pinned (OpenSpec.ofChange wirtingerOfSpec)

/-- ITS FALSE NEIGHBOUR: 'it returns false'. Refute it at one input. -/
def wirtingerOfWrong : ChangeSpec := { name := "wirtingerOf", fn := fun _ => fun
  | [d] => { results := [.lit (.bool false)], args := [d] }
  | _ => none }
def WirtingerOfWrongFalsely : Prop := wirtingerOfRow.holds Try.pinned (OpenSpec.ofChange wirtingerOfWrong)

/-- 'unravellaw22.WirtingerValid': WHATEVER THE INPUT: true; the input reads as it did. -/
def wirtingerValidSpec : ChangeSpec := { name := "wirtingerValid", fn := fun _ => fun
  | [d] => { results := [.lit (.bool true)], args := [d] }
  | _ => none }
def wirtingerValidRow : OpenClaim := { program := "ytcjgfncbecbhjaa", sum := "c3fa75b121b1ec7c9f2dfd41f2574d4b3a71c0878a61bbdd7f0810feb6128904", func := "unravel/unravellaw22.WirtingerValid", spec := "wirtingerValid", unfollowed := true, recurses := true, apart := false }
def WirtingerValidSaid : Prop := wirtingerValidRow.holds Try.pinned (OpenSpec.ofChange wirtingerValidSpec)

/-- ITS FALSE NEIGHBOUR: 'it returns false'. Refute it at one input. -/
def wirtingerValidWrong : ChangeSpec := { name := "wirtingerValid", fn := fun _ => fun
  | [d] => { results := [.lit (.bool false)], args := [d] }
  | _ => none }
def WirtingerValidWrongFalsely : Prop := wirtingerValidRow.holds Try.pinned (OpenSpec.ofChange wirtingerValidWrong)

/-- 'unravellaw22.WirtingerBalances': WHATEVER THE INPUT: true; the input reads as it did. -/
def wirtingerBalancesSpec : ChangeSpec := { name := "wirtingerBalances", fn := fun _ => fun
  | [d] => { results := [.lit (.bool true)], args := [d] }
  | _ => none }
def wirtingerBalancesRow : OpenClaim := { program := "ytcjgfncbecbhjaa", sum := "c3fa75b121b1ec7c9f2dfd41f2574d4b3a71c0878a61bbdd7f0810feb6128904", func := "unravel/unravellaw22.WirtingerBalances", spec := "wirtingerBalances", unfollowed := true, recurses := true, apart := false }
def WirtingerBalancesSaid : Prop := wirtingerBalancesRow.holds Try.pinned (OpenSpec.ofChange wirtingerBalancesSpec)

/-- ITS FALSE NEIGHBOUR: 'it returns false'. Refute it at one input. -/
def wirtingerBalancesWrong : ChangeSpec := { name := "wirtingerBalances", fn := fun _ => fun
  | [d] => { results := [.lit (.bool false)], args := [d] }
  | _ => none }
def WirtingerBalancesWrongFalsely : Prop := wirtingerBalancesRow.holds Try.pinned (OpenSpec.ofChange wirtingerBalancesWrong)

/-- 'unravellaw22.WirtingerCounts': WHATEVER THE INPUT: true; the input reads as it did. -/
def wirtingerCountsSpec : ChangeSpec := { name := "wirtingerCounts", fn := fun _ => fun
  | [d] => { results := [.lit (.bool true)], args := [d] }
  | _ => none }
def wirtingerCountsRow : OpenClaim := { program := "ytcjgfncbecbhjaa", sum := "c3fa75b121b1ec7c9f2dfd41f2574d4b3a71c0878a61bbdd7f0810feb6128904", func := "unravel/unravellaw22.WirtingerCounts", spec := "wirtingerCounts", unfollowed := true, recurses := true, apart := false }
def WirtingerCountsSaid : Prop := wirtingerCountsRow.holds Try.pinned (OpenSpec.ofChange wirtingerCountsSpec)

/-- ITS FALSE NEIGHBOUR: 'it returns false'. Refute it at one input. -/
def wirtingerCountsWrong : ChangeSpec := { name := "wirtingerCounts", fn := fun _ => fun
  | [d] => { results := [.lit (.bool false)], args := [d] }
  | _ => none }
def WirtingerCountsWrongFalsely : Prop := wirtingerCountsRow.holds Try.pinned (OpenSpec.ofChange wirtingerCountsWrong)

/-- 'unravellaw22.WirtingerLongitude': WHATEVER THE INPUT: true; the input reads as it did. -/
def wirtingerLongitudeSpec : ChangeSpec := { name := "wirtingerLongitude", fn := fun _ => fun
  | [d1, d2] => { results := [.lit (.bool true)], args := [d1, d2] }
  | _ => none }
def wirtingerLongitudeRow : OpenClaim := { program := "ytcjgfncbecbhjaa", sum := "c3fa75b121b1ec7c9f2dfd41f2574d4b3a71c0878a61bbdd7f0810feb6128904", func := "unravel/unravellaw22.WirtingerLongitude", spec := "wirtingerLongitude", unfollowed := true, recurses := true, apart := false }
def WirtingerLongitudeSaid : Prop := wirtingerLongitudeRow.holds Try.pinned (OpenSpec.ofChange wirtingerLongitudeSpec)

/-- ITS FALSE NEIGHBOUR: 'it returns false'. Refute it at one input. -/
def wirtingerLongitudeWrong : ChangeSpec := { name := "wirtingerLongitude", fn := fun _ => fun
  | [d1, d2] => { results := [.lit (.bool false)], args := [d1, d2] }
  | _ => none }
def WirtingerLongitudeWrongFalsely : Prop := wirtingerLongitudeRow.holds Try.pinned (OpenSpec.ofChange wirtingerLongitudeWrong)

/-- 'unravellaw22.WirtingerImages': WHATEVER THE INPUT: true; the input reads as it did. -/
def wirtingerImagesSpec : ChangeSpec := { name := "wirtingerImages", fn := fun _ => fun
  | [d1, d2] => { results := [.lit (.bool true)], args := [d1, d2] }
  | _ => none }
def wirtingerImagesRow : OpenClaim := { program := "ytcjgfncbecbhjaa", sum := "c3fa75b121b1ec7c9f2dfd41f2574d4b3a71c0878a61bbdd7f0810feb6128904", func := "unravel/unravellaw22.WirtingerImages", spec := "wirtingerImages", unfollowed := true, recurses := true, apart := false }
def WirtingerImagesSaid : Prop := wirtingerImagesRow.holds Try.pinned (OpenSpec.ofChange wirtingerImagesSpec)

/-- ITS FALSE NEIGHBOUR: 'it returns false'. Refute it at one input. -/
def wirtingerImagesWrong : ChangeSpec := { name := "wirtingerImages", fn := fun _ => fun
  | [d1, d2] => { results := [.lit (.bool false)], args := [d1, d2] }
  | _ => none }
def WirtingerImagesWrongFalsely : Prop := wirtingerImagesRow.holds Try.pinned (OpenSpec.ofChange wirtingerImagesWrong)

/-- 'unravellaw22.WirtingerCommutes': WHATEVER THE INPUT: true; the input reads as it did. -/
def wirtingerCommutesSpec : ChangeSpec := { name := "wirtingerCommutes", fn := fun _ => fun
  | [d1, d2] => { results := [.lit (.bool true)], args := [d1, d2] }
  | _ => none }
def wirtingerCommutesRow : OpenClaim := { program := "ytcjgfncbecbhjaa", sum := "c3fa75b121b1ec7c9f2dfd41f2574d4b3a71c0878a61bbdd7f0810feb6128904", func := "unravel/unravellaw22.WirtingerCommutes", spec := "wirtingerCommutes", unfollowed := true, recurses := true, apart := false }
def WirtingerCommutesSaid : Prop := wirtingerCommutesRow.holds Try.pinned (OpenSpec.ofChange wirtingerCommutesSpec)

/-- ITS FALSE NEIGHBOUR: 'it returns false'. Refute it at one input. -/
def wirtingerCommutesWrong : ChangeSpec := { name := "wirtingerCommutes", fn := fun _ => fun
  | [d1, d2] => { results := [.lit (.bool false)], args := [d1, d2] }
  | _ => none }
def WirtingerCommutesWrongFalsely : Prop := wirtingerCommutesRow.holds Try.pinned (OpenSpec.ofChange wirtingerCommutesWrong)

/-- 'unravellaw22.WirtingerLinks': WHATEVER THE INPUT: true; the input reads as it did. -/
def wirtingerLinksSpec : ChangeSpec := { name := "wirtingerLinks", fn := fun _ => fun
  | [d1, d2] => { results := [.lit (.bool true)], args := [d1, d2] }
  | _ => none }
def wirtingerLinksRow : OpenClaim := { program := "ytcjgfncbecbhjaa", sum := "c3fa75b121b1ec7c9f2dfd41f2574d4b3a71c0878a61bbdd7f0810feb6128904", func := "unravel/unravellaw22.WirtingerLinks", spec := "wirtingerLinks", unfollowed := true, recurses := true, apart := false }
def WirtingerLinksSaid : Prop := wirtingerLinksRow.holds Try.pinned (OpenSpec.ofChange wirtingerLinksSpec)

/-- ITS FALSE NEIGHBOUR: 'it returns false'. Refute it at one input. -/
def wirtingerLinksWrong : ChangeSpec := { name := "wirtingerLinks", fn := fun _ => fun
  | [d1, d2] => { results := [.lit (.bool false)], args := [d1, d2] }
  | _ => none }
def WirtingerLinksWrongFalsely : Prop := wirtingerLinksRow.holds Try.pinned (OpenSpec.ofChange wirtingerLinksWrong)

/- THE SECOND FORM. 'bulk': how many values and letters a reading holds, each counted each time it is reached (what is shared counts as often as it is met; a slice's spare places count too). A statement '..UptoSaid' is the law's where the arguments, and the package variables that the reading takes, are together of bulk at most 1048576: NARROWER than '..Said'. Prove '..Said' where nothing that the law and all that it calls make is longer than what came in: it says more and counts as full. Else prove '..UptoSaid'. A law counts once. -/
mutual
def uptoBulk {H : Type} : DataW H → Nat
  | .lit (.string bytes) => bytes.length + 1
  | .lit _ => 1
  | .nil => 1
  | .ptr d => uptoBulk d + 1
  | .slice elems spare => uptoBulkAll elems + uptoBulkAll spare + 1
  | .agg parts => uptoBulkAll parts + 1
  | .iface _ d => uptoBulk d + 1
  | .map entries => uptoBulkEntries entries + 1
  | .held _ => 1
def uptoBulkAll {H : Type} : List (DataW H) → Nat
  | [] => 0
  | d :: r => uptoBulk d + uptoBulkAll r
def uptoBulkEntries {H : Type} : List (Lit × DataW H) → Nat
  | [] => 0
  | x :: r => uptoBulkEntry x + uptoBulkEntries r
def uptoBulkEntry {H : Type} : Lit × DataW H → Nat
  | (.string bytes, d) => bytes.length + uptoBulk d + 1
  | (_, d) => uptoBulk d + 1
 end
def uptoSmall : (H : Type) → List (DataW H) → Bool := fun _ ds => decide (uptoBulkAll ds ≤ 1048576)
def OpenSpec.upto (s : _root_.Go.ChangeSpec) : _root_.Go.OpenSpec := { _root_.Go.OpenSpec.ofChange s with cond := some uptoSmall }

/-- 'unravellaw22.WirtingerArcs', WHERE WHAT IT READS IS OF BULK AT MOST 1048576: true; the input reads as it did. -/
def wirtingerArcsUptoRow : OpenClaim := { program := "ytcjgfncbecbhjaa", sum := "c3fa75b121b1ec7c9f2dfd41f2574d4b3a71c0878a61bbdd7f0810feb6128904", func := "unravel/unravellaw22.WirtingerArcs", spec := "wirtingerArcs", unfollowed := true, recurses := true, apart := false, narrowed := true }
def WirtingerArcsUptoSaid : Prop := wirtingerArcsUptoRow.holds Try.pinned (OpenSpec.upto wirtingerArcsSpec)

/-- 'unravellaw22.WirtingerOf', WHERE WHAT IT READS IS OF BULK AT MOST 1048576: true; the input reads as it did. -/
def wirtingerOfUptoRow : OpenClaim := { program := "ytcjgfncbecbhjaa", sum := "c3fa75b121b1ec7c9f2dfd41f2574d4b3a71c0878a61bbdd7f0810feb6128904", func := "unravel/unravellaw22.WirtingerOf", spec := "wirtingerOf", unfollowed := true, recurses := true, apart := false, narrowed := true }
def WirtingerOfUptoSaid : Prop := wirtingerOfUptoRow.holds Try.pinned (OpenSpec.upto wirtingerOfSpec)

/-- 'unravellaw22.WirtingerValid', WHERE WHAT IT READS IS OF BULK AT MOST 1048576: true; the input reads as it did. -/
def wirtingerValidUptoRow : OpenClaim := { program := "ytcjgfncbecbhjaa", sum := "c3fa75b121b1ec7c9f2dfd41f2574d4b3a71c0878a61bbdd7f0810feb6128904", func := "unravel/unravellaw22.WirtingerValid", spec := "wirtingerValid", unfollowed := true, recurses := true, apart := false, narrowed := true }
def WirtingerValidUptoSaid : Prop := wirtingerValidUptoRow.holds Try.pinned (OpenSpec.upto wirtingerValidSpec)

/-- 'unravellaw22.WirtingerBalances', WHERE WHAT IT READS IS OF BULK AT MOST 1048576: true; the input reads as it did. -/
def wirtingerBalancesUptoRow : OpenClaim := { program := "ytcjgfncbecbhjaa", sum := "c3fa75b121b1ec7c9f2dfd41f2574d4b3a71c0878a61bbdd7f0810feb6128904", func := "unravel/unravellaw22.WirtingerBalances", spec := "wirtingerBalances", unfollowed := true, recurses := true, apart := false, narrowed := true }
def WirtingerBalancesUptoSaid : Prop := wirtingerBalancesUptoRow.holds Try.pinned (OpenSpec.upto wirtingerBalancesSpec)

/-- 'unravellaw22.WirtingerCounts', WHERE WHAT IT READS IS OF BULK AT MOST 1048576: true; the input reads as it did. -/
def wirtingerCountsUptoRow : OpenClaim := { program := "ytcjgfncbecbhjaa", sum := "c3fa75b121b1ec7c9f2dfd41f2574d4b3a71c0878a61bbdd7f0810feb6128904", func := "unravel/unravellaw22.WirtingerCounts", spec := "wirtingerCounts", unfollowed := true, recurses := true, apart := false, narrowed := true }
def WirtingerCountsUptoSaid : Prop := wirtingerCountsUptoRow.holds Try.pinned (OpenSpec.upto wirtingerCountsSpec)

/-- 'unravellaw22.WirtingerLongitude', WHERE WHAT IT READS IS OF BULK AT MOST 1048576: true; the input reads as it did. -/
def wirtingerLongitudeUptoRow : OpenClaim := { program := "ytcjgfncbecbhjaa", sum := "c3fa75b121b1ec7c9f2dfd41f2574d4b3a71c0878a61bbdd7f0810feb6128904", func := "unravel/unravellaw22.WirtingerLongitude", spec := "wirtingerLongitude", unfollowed := true, recurses := true, apart := false, narrowed := true }
def WirtingerLongitudeUptoSaid : Prop := wirtingerLongitudeUptoRow.holds Try.pinned (OpenSpec.upto wirtingerLongitudeSpec)

/-- 'unravellaw22.WirtingerImages', WHERE WHAT IT READS IS OF BULK AT MOST 1048576: true; the input reads as it did. -/
def wirtingerImagesUptoRow : OpenClaim := { program := "ytcjgfncbecbhjaa", sum := "c3fa75b121b1ec7c9f2dfd41f2574d4b3a71c0878a61bbdd7f0810feb6128904", func := "unravel/unravellaw22.WirtingerImages", spec := "wirtingerImages", unfollowed := true, recurses := true, apart := false, narrowed := true }
def WirtingerImagesUptoSaid : Prop := wirtingerImagesUptoRow.holds Try.pinned (OpenSpec.upto wirtingerImagesSpec)

/-- 'unravellaw22.WirtingerCommutes', WHERE WHAT IT READS IS OF BULK AT MOST 1048576: true; the input reads as it did. -/
def wirtingerCommutesUptoRow : OpenClaim := { program := "ytcjgfncbecbhjaa", sum := "c3fa75b121b1ec7c9f2dfd41f2574d4b3a71c0878a61bbdd7f0810feb6128904", func := "unravel/unravellaw22.WirtingerCommutes", spec := "wirtingerCommutes", unfollowed := true, recurses := true, apart := false, narrowed := true }
def WirtingerCommutesUptoSaid : Prop := wirtingerCommutesUptoRow.holds Try.pinned (OpenSpec.upto wirtingerCommutesSpec)

/-- 'unravellaw22.WirtingerLinks', WHERE WHAT IT READS IS OF BULK AT MOST 1048576: true; the input reads as it did. -/
def wirtingerLinksUptoRow : OpenClaim := { program := "ytcjgfncbecbhjaa", sum := "c3fa75b121b1ec7c9f2dfd41f2574d4b3a71c0878a61bbdd7f0810feb6128904", func := "unravel/unravellaw22.WirtingerLinks", spec := "wirtingerLinks", unfollowed := true, recurses := true, apart := false, narrowed := true }
def WirtingerLinksUptoSaid : Prop := wirtingerLinksUptoRow.holds Try.pinned (OpenSpec.upto wirtingerLinksSpec)

end Rows
end Go.Proofs.Ytcjgfncbecbhjaa
