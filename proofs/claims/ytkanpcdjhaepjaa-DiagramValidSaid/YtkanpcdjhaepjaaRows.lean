/-
  No cell of these rows narrows 'for every input' (looked for: loops, veiled, ifaces, maps, wideKeys, modest, calm, conditions, laid).
  DERIVED. THE GIVEN ROWS OF THIS SEAT. 8 by the template 'for every input the law returns true; each argument reads behind the call as it read before'; 0 by the template 'total and deterministic' (their statements: YtkanpcdjhaepjaaTotals.lean).
  GIVEN WITH THE SEED: the statements are not yours to turn. If you find one false, say at which input.
  Laid BY PROGRAM, IN A SANDBOX (cutbox-rows.mjs): the forced cells as the released guide's own fill.sh prints them over the translation 04e26f3c5202a9de… (all of the seat's roots in one cut). By AI agents, Wed Nov 11 2026. No macro, syntax, notation, axiom, sorry.
-/
import Derived.Test.YtkanpcdjhaepjaaChecked
import GoSem.Claim
import GoSem.ClaimJoined
import GoSem.ClaimMapViews
import Derived.JoinedTies
import Derived.KernelRfl
namespace Go.Proofs.Ytkanpcdjhaepjaa
/- THE CELL 'sum', in the pinned program and in every row, IS THE sha256 OF THE DUMP (.gsa) THAT YtkanpcdjhaepjaaProg.lean LOADS. Nothing in Lean hashes anything: it is a label: what it is worth is what the hold of that sum in a sandbox is worth. -/
noncomputable def Try.pinned : Pinned := { name := "ytkanpcdjhaepjaa", sum := "04e26f3c5202a9de2689252bad0ebf9256b98dbfdd729f6d4479d0ea45f08f98", checked := Try.checked }
namespace Rows
def none {H : Type} : Left H := { results := [], args := [] }

/-- 'unravellaw01.DiagramTurns': WHATEVER THE INPUT: true; the input reads as it did. -/
def diagramTurnsSpec : ChangeSpec := { name := "diagramTurns", fn := fun _ => fun
  | [d1, d2, d3] => { results := [.lit (.bool true)], args := [d1, d2, d3] }
  | _ => none }
def diagramTurnsRow : OpenClaim := { program := "ytkanpcdjhaepjaa", sum := "04e26f3c5202a9de2689252bad0ebf9256b98dbfdd729f6d4479d0ea45f08f98", func := "unravel/unravellaw01.DiagramTurns", spec := "diagramTurns", unfollowed := true, recurses := true, apart := false }
def DiagramTurnsSaid : Prop := diagramTurnsRow.holds Try.pinned (OpenSpec.ofChange diagramTurnsSpec)

/-- ITS FALSE NEIGHBOUR: 'it returns false'. Refute it at one input. -/
def diagramTurnsWrong : ChangeSpec := { name := "diagramTurns", fn := fun _ => fun
  | [d1, d2, d3] => { results := [.lit (.bool false)], args := [d1, d2, d3] }
  | _ => none }
def DiagramTurnsWrongFalsely : Prop := diagramTurnsRow.holds Try.pinned (OpenSpec.ofChange diagramTurnsWrong)

/-- 'unravellaw01.DiagramEuler': WHATEVER THE INPUT: true; the input reads as it did. -/
def diagramEulerSpec : ChangeSpec := { name := "diagramEuler", fn := fun _ => fun
  | [d] => { results := [.lit (.bool true)], args := [d] }
  | _ => none }
def diagramEulerRow : OpenClaim := { program := "ytkanpcdjhaepjaa", sum := "04e26f3c5202a9de2689252bad0ebf9256b98dbfdd729f6d4479d0ea45f08f98", func := "unravel/unravellaw01.DiagramEuler", spec := "diagramEuler", unfollowed := true, recurses := true, apart := false }
def DiagramEulerSaid : Prop := diagramEulerRow.holds Try.pinned (OpenSpec.ofChange diagramEulerSpec)

/-- ITS FALSE NEIGHBOUR: 'it returns false'. Refute it at one input. -/
def diagramEulerWrong : ChangeSpec := { name := "diagramEuler", fn := fun _ => fun
  | [d] => { results := [.lit (.bool false)], args := [d] }
  | _ => none }
def DiagramEulerWrongFalsely : Prop := diagramEulerRow.holds Try.pinned (OpenSpec.ofChange diagramEulerWrong)

/-- 'unravellaw01.DiagramSpoils': WHATEVER THE INPUT: true; the input reads as it did. -/
def diagramSpoilsSpec : ChangeSpec := { name := "diagramSpoils", fn := fun _ => fun
  | [d1, d2] => { results := [.lit (.bool true)], args := [d1, d2] }
  | _ => none }
def diagramSpoilsRow : OpenClaim := { program := "ytkanpcdjhaepjaa", sum := "04e26f3c5202a9de2689252bad0ebf9256b98dbfdd729f6d4479d0ea45f08f98", func := "unravel/unravellaw01.DiagramSpoils", spec := "diagramSpoils", unfollowed := true, recurses := true, apart := false }
def DiagramSpoilsSaid : Prop := diagramSpoilsRow.holds Try.pinned (OpenSpec.ofChange diagramSpoilsSpec)

/-- ITS FALSE NEIGHBOUR: 'it returns false'. Refute it at one input. -/
def diagramSpoilsWrong : ChangeSpec := { name := "diagramSpoils", fn := fun _ => fun
  | [d1, d2] => { results := [.lit (.bool false)], args := [d1, d2] }
  | _ => none }
def DiagramSpoilsWrongFalsely : Prop := diagramSpoilsRow.holds Try.pinned (OpenSpec.ofChange diagramSpoilsWrong)

/-- 'unravellaw01.DiagramStrands': WHATEVER THE INPUT: true; the input reads as it did. -/
def diagramStrandsSpec : ChangeSpec := { name := "diagramStrands", fn := fun _ => fun
  | [d] => { results := [.lit (.bool true)], args := [d] }
  | _ => none }
def diagramStrandsRow : OpenClaim := { program := "ytkanpcdjhaepjaa", sum := "04e26f3c5202a9de2689252bad0ebf9256b98dbfdd729f6d4479d0ea45f08f98", func := "unravel/unravellaw01.DiagramStrands", spec := "diagramStrands", unfollowed := true, recurses := true, apart := false }
def DiagramStrandsSaid : Prop := diagramStrandsRow.holds Try.pinned (OpenSpec.ofChange diagramStrandsSpec)

/-- ITS FALSE NEIGHBOUR: 'it returns false'. Refute it at one input. -/
def diagramStrandsWrong : ChangeSpec := { name := "diagramStrands", fn := fun _ => fun
  | [d] => { results := [.lit (.bool false)], args := [d] }
  | _ => none }
def DiagramStrandsWrongFalsely : Prop := diagramStrandsRow.holds Try.pinned (OpenSpec.ofChange diagramStrandsWrong)

/-- 'unravellaw01.DiagramLists': WHATEVER THE INPUT: true; the input reads as it did. -/
def diagramListsSpec : ChangeSpec := { name := "diagramLists", fn := fun _ => fun
  | [d1, d2] => { results := [.lit (.bool true)], args := [d1, d2] }
  | _ => none }
def diagramListsRow : OpenClaim := { program := "ytkanpcdjhaepjaa", sum := "04e26f3c5202a9de2689252bad0ebf9256b98dbfdd729f6d4479d0ea45f08f98", func := "unravel/unravellaw01.DiagramLists", spec := "diagramLists", unfollowed := true, recurses := true, apart := false }
def DiagramListsSaid : Prop := diagramListsRow.holds Try.pinned (OpenSpec.ofChange diagramListsSpec)

/-- ITS FALSE NEIGHBOUR: 'it returns false'. Refute it at one input. -/
def diagramListsWrong : ChangeSpec := { name := "diagramLists", fn := fun _ => fun
  | [d1, d2] => { results := [.lit (.bool false)], args := [d1, d2] }
  | _ => none }
def DiagramListsWrongFalsely : Prop := diagramListsRow.holds Try.pinned (OpenSpec.ofChange diagramListsWrong)

/-- 'unravellaw01.DiagramValid': WHATEVER THE INPUT: true; the input reads as it did. -/
def diagramValidSpec : ChangeSpec := { name := "diagramValid", fn := fun _ => fun
  | [d1, d2] => { results := [.lit (.bool true)], args := [d1, d2] }
  | _ => none }
def diagramValidRow : OpenClaim := { program := "ytkanpcdjhaepjaa", sum := "04e26f3c5202a9de2689252bad0ebf9256b98dbfdd729f6d4479d0ea45f08f98", func := "unravel/unravellaw01.DiagramValid", spec := "diagramValid", unfollowed := true, recurses := true, apart := false }
def DiagramValidSaid : Prop := diagramValidRow.holds Try.pinned (OpenSpec.ofChange diagramValidSpec)

/-- ITS FALSE NEIGHBOUR: 'it returns false'. Refute it at one input. -/
def diagramValidWrong : ChangeSpec := { name := "diagramValid", fn := fun _ => fun
  | [d1, d2] => { results := [.lit (.bool false)], args := [d1, d2] }
  | _ => none }
def DiagramValidWrongFalsely : Prop := diagramValidRow.holds Try.pinned (OpenSpec.ofChange diagramValidWrong)

/-- 'unravellaw01.DiagramRenumbers': WHATEVER THE INPUT: true; the input reads as it did. -/
def diagramRenumbersSpec : ChangeSpec := { name := "diagramRenumbers", fn := fun _ => fun
  | [d1, d2] => { results := [.lit (.bool true)], args := [d1, d2] }
  | _ => none }
def diagramRenumbersRow : OpenClaim := { program := "ytkanpcdjhaepjaa", sum := "04e26f3c5202a9de2689252bad0ebf9256b98dbfdd729f6d4479d0ea45f08f98", func := "unravel/unravellaw01.DiagramRenumbers", spec := "diagramRenumbers", unfollowed := true, recurses := true, apart := false }
def DiagramRenumbersSaid : Prop := diagramRenumbersRow.holds Try.pinned (OpenSpec.ofChange diagramRenumbersSpec)

/-- ITS FALSE NEIGHBOUR: 'it returns false'. Refute it at one input. -/
def diagramRenumbersWrong : ChangeSpec := { name := "diagramRenumbers", fn := fun _ => fun
  | [d1, d2] => { results := [.lit (.bool false)], args := [d1, d2] }
  | _ => none }
def DiagramRenumbersWrongFalsely : Prop := diagramRenumbersRow.holds Try.pinned (OpenSpec.ofChange diagramRenumbersWrong)

/-- 'unravellaw01.DiagramInvariant': WHATEVER THE INPUT: true; the input reads as it did. -/
def diagramInvariantSpec : ChangeSpec := { name := "diagramInvariant", fn := fun _ => fun
  | [d1, d2] => { results := [.lit (.bool true)], args := [d1, d2] }
  | _ => none }
def diagramInvariantRow : OpenClaim := { program := "ytkanpcdjhaepjaa", sum := "04e26f3c5202a9de2689252bad0ebf9256b98dbfdd729f6d4479d0ea45f08f98", func := "unravel/unravellaw01.DiagramInvariant", spec := "diagramInvariant", unfollowed := true, recurses := true, apart := false }
def DiagramInvariantSaid : Prop := diagramInvariantRow.holds Try.pinned (OpenSpec.ofChange diagramInvariantSpec)

/-- ITS FALSE NEIGHBOUR: 'it returns false'. Refute it at one input. -/
def diagramInvariantWrong : ChangeSpec := { name := "diagramInvariant", fn := fun _ => fun
  | [d1, d2] => { results := [.lit (.bool false)], args := [d1, d2] }
  | _ => none }
def DiagramInvariantWrongFalsely : Prop := diagramInvariantRow.holds Try.pinned (OpenSpec.ofChange diagramInvariantWrong)

/- THE SECOND FORM. 'bulk': how many values and letters a reading holds, each counted each time it is reached (what is shared counts as often as it is met; a slice's spare places count too). A statement '..UptoSaid' is the law's where the arguments, and the package variables that the reading takes, are together of bulk at most 1048576: NARROWER than '..Said'. Prove '..Said' where nothing that the law and all that it calls make is longer than what came in: it says more and counts as full. Else prove '..UptoSaid'. A law counts once. -/
mutual
def uptoBulk {H : Type} : DataW H → Nat
  | .lit (.string bytes) => bytes.length + 1
  | .lit _ => 1
  | .nil => 1
  | .ptr d => uptoBulk d + 1
  | .slice elems spare => uptoBulkAll elems + uptoBulkAll spare + 1
  | .agg parts => uptoBulkAll parts + 1
  | .iface _ d => uptoBulk d + 1
  | .map entries => uptoBulkEntries entries + 1
  | .held _ => 1
def uptoBulkAll {H : Type} : List (DataW H) → Nat
  | [] => 0
  | d :: r => uptoBulk d + uptoBulkAll r
def uptoBulkEntries {H : Type} : List (Lit × DataW H) → Nat
  | [] => 0
  | x :: r => uptoBulkEntry x + uptoBulkEntries r
def uptoBulkEntry {H : Type} : Lit × DataW H → Nat
  | (.string bytes, d) => bytes.length + uptoBulk d + 1
  | (_, d) => uptoBulk d + 1
 end
def uptoSmall : (H : Type) → List (DataW H) → Bool := fun _ ds => decide (uptoBulkAll ds ≤ 1048576)
def OpenSpec.upto (s : _root_.Go.ChangeSpec) : _root_.Go.OpenSpec := { _root_.Go.OpenSpec.ofChange s with cond := some uptoSmall }

/-- 'unravellaw01.DiagramTurns', WHERE WHAT IT READS IS OF BULK AT MOST 1048576: true; the input reads as it did. -/
def diagramTurnsUptoRow : OpenClaim := { program := "ytkanpcdjhaepjaa", sum := "04e26f3c5202a9de2689252bad0ebf9256b98dbfdd729f6d4479d0ea45f08f98", func := "unravel/unravellaw01.DiagramTurns", spec := "diagramTurns", unfollowed := true, recurses := true, apart := false, narrowed := true }
def DiagramTurnsUptoSaid : Prop := diagramTurnsUptoRow.holds Try.pinned (OpenSpec.upto diagramTurnsSpec)

/-- 'unravellaw01.DiagramEuler', WHERE WHAT IT READS IS OF BULK AT MOST 1048576: true; the input reads as it did. -/
def diagramEulerUptoRow : OpenClaim := { program := "ytkanpcdjhaepjaa", sum := "04e26f3c5202a9de2689252bad0ebf9256b98dbfdd729f6d4479d0ea45f08f98", func := "unravel/unravellaw01.DiagramEuler", spec := "diagramEuler", unfollowed := true, recurses := true, apart := false, narrowed := true }
def DiagramEulerUptoSaid : Prop := diagramEulerUptoRow.holds Try.pinned (OpenSpec.upto diagramEulerSpec)

/-- 'unravellaw01.DiagramSpoils', WHERE WHAT IT READS IS OF BULK AT MOST 1048576: true; the input reads as it did. -/
def diagramSpoilsUptoRow : OpenClaim := { program := "ytkanpcdjhaepjaa", sum := "04e26f3c5202a9de2689252bad0ebf9256b98dbfdd729f6d4479d0ea45f08f98", func := "unravel/unravellaw01.DiagramSpoils", spec := "diagramSpoils", unfollowed := true, recurses := true, apart := false, narrowed := true }
def DiagramSpoilsUptoSaid : Prop := diagramSpoilsUptoRow.holds Try.pinned (OpenSpec.upto diagramSpoilsSpec)

/-- 'unravellaw01.DiagramStrands', WHERE WHAT IT READS IS OF BULK AT MOST 1048576: true; the input reads as it did. -/
def diagramStrandsUptoRow : OpenClaim := { program := "ytkanpcdjhaepjaa", sum := "04e26f3c5202a9de2689252bad0ebf9256b98dbfdd729f6d4479d0ea45f08f98", func := "unravel/unravellaw01.DiagramStrands", spec := "diagramStrands", unfollowed := true, recurses := true, apart := false, narrowed := true }
def DiagramStrandsUptoSaid : Prop := diagramStrandsUptoRow.holds Try.pinned (OpenSpec.upto diagramStrandsSpec)

/-- 'unravellaw01.DiagramLists', WHERE WHAT IT READS IS OF BULK AT MOST 1048576: true; the input reads as it did. -/
def diagramListsUptoRow : OpenClaim := { program := "ytkanpcdjhaepjaa", sum := "04e26f3c5202a9de2689252bad0ebf9256b98dbfdd729f6d4479d0ea45f08f98", func := "unravel/unravellaw01.DiagramLists", spec := "diagramLists", unfollowed := true, recurses := true, apart := false, narrowed := true }
def DiagramListsUptoSaid : Prop := diagramListsUptoRow.holds Try.pinned (OpenSpec.upto diagramListsSpec)

/-- 'unravellaw01.DiagramValid', WHERE WHAT IT READS IS OF BULK AT MOST 1048576: true; the input reads as it did. -/
def diagramValidUptoRow : OpenClaim := { program := "ytkanpcdjhaepjaa", sum := "04e26f3c5202a9de2689252bad0ebf9256b98dbfdd729f6d4479d0ea45f08f98", func := "unravel/unravellaw01.DiagramValid", spec := "diagramValid", unfollowed := true, recurses := true, apart := false, narrowed := true }
def DiagramValidUptoSaid : Prop := diagramValidUptoRow.holds Try.pinned (OpenSpec.upto diagramValidSpec)

/-- 'unravellaw01.DiagramRenumbers', WHERE WHAT IT READS IS OF BULK AT MOST 1048576: true; the input reads as it did. -/
def diagramRenumbersUptoRow : OpenClaim := { program := "ytkanpcdjhaepjaa", sum := "04e26f3c5202a9de2689252bad0ebf9256b98dbfdd729f6d4479d0ea45f08f98", func := "unravel/unravellaw01.DiagramRenumbers", spec := "diagramRenumbers", unfollowed := true, recurses := true, apart := false, narrowed := true }
def DiagramRenumbersUptoSaid : Prop := diagramRenumbersUptoRow.holds Try.pinned (OpenSpec.upto diagramRenumbersSpec)

/-- 'unravellaw01.DiagramInvariant', WHERE WHAT IT READS IS OF BULK AT MOST 1048576: true; the input reads as it did. -/
def diagramInvariantUptoRow : OpenClaim := { program := "ytkanpcdjhaepjaa", sum := "04e26f3c5202a9de2689252bad0ebf9256b98dbfdd729f6d4479d0ea45f08f98", func := "unravel/unravellaw01.DiagramInvariant", spec := "diagramInvariant", unfollowed := true, recurses := true, apart := false, narrowed := true }
def DiagramInvariantUptoSaid : Prop := diagramInvariantUptoRow.holds Try.pinned (OpenSpec.upto diagramInvariantSpec)

end Rows
end Go.Proofs.Ytkanpcdjhaepjaa
