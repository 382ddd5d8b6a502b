/-
  No cell of these rows narrows 'for every input' (looked for: loops, veiled, ifaces, maps, wideKeys, modest, calm, conditions, laid).
  DERIVED. THE GIVEN ROWS OF THIS SEAT. 8 by the template 'for every input the law returns true; each argument reads behind the call as it read before'; 0 by the template 'total and deterministic' (their statements: YtaghemilihaiaaaTotals.lean).
  GIVEN WITH THE SEED: the statements are not yours to turn. If you find one false, say at which input.
  Laid BY PROGRAM, IN A SANDBOX (cutbox-rows.mjs): the forced cells as the released guide's own fill.sh prints them over the translation caed3741528fe398… (all of the seat's roots in one cut). By AI agents, Wed Nov 11 2026. No macro, syntax, notation, axiom, sorry.
-/
import Derived.Test.YtaghemilihaiaaaChecked
import GoSem.Claim
import GoSem.ClaimJoined
import GoSem.ClaimMapViews
import Derived.JoinedTies
import Derived.KernelRfl
namespace Go.Proofs.Ytaghemilihaiaaa
/- THE CELL 'sum', in the pinned program and in every row, IS THE sha256 OF THE DUMP (.gsa) THAT YtaghemilihaiaaaProg.lean LOADS. Nothing in Lean hashes anything: it is a label: what it is worth is what the hold of that sum in a sandbox is worth. -/
noncomputable def Try.pinned : Pinned := { name := "ytaghemilihaiaaa", sum := "caed3741528fe398809666c63d156738b4fbb6495378f8e2b58d2ce05c5886a1", checked := Try.checked }
namespace Rows
def none {H : Type} : Left H := { results := [], args := [] }

/-- 'unravellaw32.SeifertCircles': WHATEVER THE INPUT: true; the input reads as it did. -/
def seifertCirclesSpec : ChangeSpec := { name := "seifertCircles", fn := fun _ => fun
  | [d] => { results := [.lit (.bool true)], args := [d] }
  | _ => none }
def seifertCirclesRow : OpenClaim := { program := "ytaghemilihaiaaa", sum := "caed3741528fe398809666c63d156738b4fbb6495378f8e2b58d2ce05c5886a1", func := "unravel/unravellaw32.SeifertCircles", spec := "seifertCircles", unfollowed := true, recurses := true, apart := false }
def SeifertCirclesSaid : Prop := seifertCirclesRow.holds Try.pinned (OpenSpec.ofChange seifertCirclesSpec)

/-- ITS FALSE NEIGHBOUR: 'it returns false'. Refute it at one input. -/
def seifertCirclesWrong : ChangeSpec := { name := "seifertCircles", fn := fun _ => fun
  | [d] => { results := [.lit (.bool false)], args := [d] }
  | _ => none }
def SeifertCirclesWrongFalsely : Prop := seifertCirclesRow.holds Try.pinned (OpenSpec.ofChange seifertCirclesWrong)

/-- 'unravellaw32.SeifertGenus': WHATEVER THE INPUT: true; the input reads as it did. -/
def seifertGenusSpec : ChangeSpec := { name := "seifertGenus", fn := fun _ => fun
  | [d] => { results := [.lit (.bool true)], args := [d] }
  | _ => none }
def seifertGenusRow : OpenClaim := { program := "ytaghemilihaiaaa", sum := "caed3741528fe398809666c63d156738b4fbb6495378f8e2b58d2ce05c5886a1", func := "unravel/unravellaw32.SeifertGenus", spec := "seifertGenus", unfollowed := true, recurses := true, apart := false }
def SeifertGenusSaid : Prop := seifertGenusRow.holds Try.pinned (OpenSpec.ofChange seifertGenusSpec)

/-- ITS FALSE NEIGHBOUR: 'it returns false'. Refute it at one input. -/
def seifertGenusWrong : ChangeSpec := { name := "seifertGenus", fn := fun _ => fun
  | [d] => { results := [.lit (.bool false)], args := [d] }
  | _ => none }
def SeifertGenusWrongFalsely : Prop := seifertGenusRow.holds Try.pinned (OpenSpec.ofChange seifertGenusWrong)

/-- 'unravellaw32.SeifertGraph': WHATEVER THE INPUT: true; the input reads as it did. -/
def seifertGraphSpec : ChangeSpec := { name := "seifertGraph", fn := fun _ => fun
  | [d] => { results := [.lit (.bool true)], args := [d] }
  | _ => none }
def seifertGraphRow : OpenClaim := { program := "ytaghemilihaiaaa", sum := "caed3741528fe398809666c63d156738b4fbb6495378f8e2b58d2ce05c5886a1", func := "unravel/unravellaw32.SeifertGraph", spec := "seifertGraph", unfollowed := true, recurses := true, apart := false }
def SeifertGraphSaid : Prop := seifertGraphRow.holds Try.pinned (OpenSpec.ofChange seifertGraphSpec)

/-- ITS FALSE NEIGHBOUR: 'it returns false'. Refute it at one input. -/
def seifertGraphWrong : ChangeSpec := { name := "seifertGraph", fn := fun _ => fun
  | [d] => { results := [.lit (.bool false)], args := [d] }
  | _ => none }
def SeifertGraphWrongFalsely : Prop := seifertGraphRow.holds Try.pinned (OpenSpec.ofChange seifertGraphWrong)

/-- 'unravellaw32.SeifertBipartite': WHATEVER THE INPUT: true; the input reads as it did. -/
def seifertBipartiteSpec : ChangeSpec := { name := "seifertBipartite", fn := fun _ => fun
  | [d] => { results := [.lit (.bool true)], args := [d] }
  | _ => none }
def seifertBipartiteRow : OpenClaim := { program := "ytaghemilihaiaaa", sum := "caed3741528fe398809666c63d156738b4fbb6495378f8e2b58d2ce05c5886a1", func := "unravel/unravellaw32.SeifertBipartite", spec := "seifertBipartite", unfollowed := true, recurses := true, apart := false }
def SeifertBipartiteSaid : Prop := seifertBipartiteRow.holds Try.pinned (OpenSpec.ofChange seifertBipartiteSpec)

/-- ITS FALSE NEIGHBOUR: 'it returns false'. Refute it at one input. -/
def seifertBipartiteWrong : ChangeSpec := { name := "seifertBipartite", fn := fun _ => fun
  | [d] => { results := [.lit (.bool false)], args := [d] }
  | _ => none }
def SeifertBipartiteWrongFalsely : Prop := seifertBipartiteRow.holds Try.pinned (OpenSpec.ofChange seifertBipartiteWrong)

/-- 'unravellaw32.SeifertIncoherent': WHATEVER THE INPUT: true; the input reads as it did. -/
def seifertIncoherentSpec : ChangeSpec := { name := "seifertIncoherent", fn := fun _ => fun
  | [d] => { results := [.lit (.bool true)], args := [d] }
  | _ => none }
def seifertIncoherentRow : OpenClaim := { program := "ytaghemilihaiaaa", sum := "caed3741528fe398809666c63d156738b4fbb6495378f8e2b58d2ce05c5886a1", func := "unravel/unravellaw32.SeifertIncoherent", spec := "seifertIncoherent", unfollowed := true, recurses := true, apart := false }
def SeifertIncoherentSaid : Prop := seifertIncoherentRow.holds Try.pinned (OpenSpec.ofChange seifertIncoherentSpec)

/-- ITS FALSE NEIGHBOUR: 'it returns false'. Refute it at one input. -/
def seifertIncoherentWrong : ChangeSpec := { name := "seifertIncoherent", fn := fun _ => fun
  | [d] => { results := [.lit (.bool false)], args := [d] }
  | _ => none }
def SeifertIncoherentWrongFalsely : Prop := seifertIncoherentRow.holds Try.pinned (OpenSpec.ofChange seifertIncoherentWrong)

/-- 'unravellaw32.SeifertBraids': WHATEVER THE INPUT: true; the input reads as it did. -/
def seifertBraidsSpec : ChangeSpec := { name := "seifertBraids", fn := fun _ => fun
  | [d1, d2] => { results := [.lit (.bool true)], args := [d1, d2] }
  | _ => none }
def seifertBraidsRow : OpenClaim := { program := "ytaghemilihaiaaa", sum := "caed3741528fe398809666c63d156738b4fbb6495378f8e2b58d2ce05c5886a1", func := "unravel/unravellaw32.SeifertBraids", spec := "seifertBraids", unfollowed := true, recurses := true, apart := false }
def SeifertBraidsSaid : Prop := seifertBraidsRow.holds Try.pinned (OpenSpec.ofChange seifertBraidsSpec)

/-- ITS FALSE NEIGHBOUR: 'it returns false'. Refute it at one input. -/
def seifertBraidsWrong : ChangeSpec := { name := "seifertBraids", fn := fun _ => fun
  | [d1, d2] => { results := [.lit (.bool false)], args := [d1, d2] }
  | _ => none }
def SeifertBraidsWrongFalsely : Prop := seifertBraidsRow.holds Try.pinned (OpenSpec.ofChange seifertBraidsWrong)

/-- 'unravellaw32.SeifertSums': WHATEVER THE INPUT: true; the input reads as it did. -/
def seifertSumsSpec : ChangeSpec := { name := "seifertSums", fn := fun _ => fun
  | [d1, d2, d3, d4] => { results := [.lit (.bool true)], args := [d1, d2, d3, d4] }
  | _ => none }
def seifertSumsRow : OpenClaim := { program := "ytaghemilihaiaaa", sum := "caed3741528fe398809666c63d156738b4fbb6495378f8e2b58d2ce05c5886a1", func := "unravel/unravellaw32.SeifertSums", spec := "seifertSums", unfollowed := true, recurses := true, apart := false }
def SeifertSumsSaid : Prop := seifertSumsRow.holds Try.pinned (OpenSpec.ofChange seifertSumsSpec)

/-- ITS FALSE NEIGHBOUR: 'it returns false'. Refute it at one input. -/
def seifertSumsWrong : ChangeSpec := { name := "seifertSums", fn := fun _ => fun
  | [d1, d2, d3, d4] => { results := [.lit (.bool false)], args := [d1, d2, d3, d4] }
  | _ => none }
def SeifertSumsWrongFalsely : Prop := seifertSumsRow.holds Try.pinned (OpenSpec.ofChange seifertSumsWrong)

/-- 'unravellaw32.SeifertMirrors': WHATEVER THE INPUT: true; the input reads as it did. -/
def seifertMirrorsSpec : ChangeSpec := { name := "seifertMirrors", fn := fun _ => fun
  | [d] => { results := [.lit (.bool true)], args := [d] }
  | _ => none }
def seifertMirrorsRow : OpenClaim := { program := "ytaghemilihaiaaa", sum := "caed3741528fe398809666c63d156738b4fbb6495378f8e2b58d2ce05c5886a1", func := "unravel/unravellaw32.SeifertMirrors", spec := "seifertMirrors", unfollowed := true, recurses := true, apart := false }
def SeifertMirrorsSaid : Prop := seifertMirrorsRow.holds Try.pinned (OpenSpec.ofChange seifertMirrorsSpec)

/-- ITS FALSE NEIGHBOUR: 'it returns false'. Refute it at one input. -/
def seifertMirrorsWrong : ChangeSpec := { name := "seifertMirrors", fn := fun _ => fun
  | [d] => { results := [.lit (.bool false)], args := [d] }
  | _ => none }
def SeifertMirrorsWrongFalsely : Prop := seifertMirrorsRow.holds Try.pinned (OpenSpec.ofChange seifertMirrorsWrong)

/- THE SECOND FORM. 'bulk': how many values and letters a reading holds, each counted each time it is reached (what is shared counts as often as it is met; a slice's spare places count too). A statement '..UptoSaid' is the law's where the arguments, and the package variables that the reading takes, are together of bulk at most 1048576: NARROWER than '..Said'. Prove '..Said' where nothing that the law and all that it calls make is longer than what came in: it says more and counts as full. Else prove '..UptoSaid'. A law counts once. -/
mutual
def uptoBulk {H : Type} : DataW H → Nat
  | .lit (.string bytes) => bytes.length + 1
  | .lit _ => 1
  | .nil => 1
  | .ptr d => uptoBulk d + 1
  | .slice elems spare => uptoBulkAll elems + uptoBulkAll spare + 1
  | .agg parts => uptoBulkAll parts + 1
  | .iface _ d => uptoBulk d + 1
  | .map entries => uptoBulkEntries entries + 1
  | .held _ => 1
def uptoBulkAll {H : Type} : List (DataW H) → Nat
  | [] => 0
  | d :: r => uptoBulk d + uptoBulkAll r
def uptoBulkEntries {H : Type} : List (Lit × DataW H) → Nat
  | [] => 0
  | x :: r => uptoBulkEntry x + uptoBulkEntries r
def uptoBulkEntry {H : Type} : Lit × DataW H → Nat
  | (.string bytes, d) => bytes.length + uptoBulk d + 1
  | (_, d) => uptoBulk d + 1
 end
def uptoSmall : (H : Type) → List (DataW H) → Bool := fun _ ds => decide (uptoBulkAll ds ≤ 1048576)
def OpenSpec.upto (s : _root_.Go.ChangeSpec) : _root_.Go.OpenSpec := { _root_.Go.OpenSpec.ofChange s with cond := some uptoSmall }

/-- 'unravellaw32.SeifertCircles', WHERE WHAT IT READS IS OF BULK AT MOST 1048576: true; the input reads as it did. -/
def seifertCirclesUptoRow : OpenClaim := { program := "ytaghemilihaiaaa", sum := "caed3741528fe398809666c63d156738b4fbb6495378f8e2b58d2ce05c5886a1", func := "unravel/unravellaw32.SeifertCircles", spec := "seifertCircles", unfollowed := true, recurses := true, apart := false, narrowed := true }
def SeifertCirclesUptoSaid : Prop := seifertCirclesUptoRow.holds Try.pinned (OpenSpec.upto seifertCirclesSpec)

/-- 'unravellaw32.SeifertGenus', WHERE WHAT IT READS IS OF BULK AT MOST 1048576: true; the input reads as it did. -/
def seifertGenusUptoRow : OpenClaim := { program := "ytaghemilihaiaaa", sum := "caed3741528fe398809666c63d156738b4fbb6495378f8e2b58d2ce05c5886a1", func := "unravel/unravellaw32.SeifertGenus", spec := "seifertGenus", unfollowed := true, recurses := true, apart := false, narrowed := true }
def SeifertGenusUptoSaid : Prop := seifertGenusUptoRow.holds Try.pinned (OpenSpec.upto seifertGenusSpec)

/-- 'unravellaw32.SeifertGraph', WHERE WHAT IT READS IS OF BULK AT MOST 1048576: true; the input reads as it did. -/
def seifertGraphUptoRow : OpenClaim := { program := "ytaghemilihaiaaa", sum := "caed3741528fe398809666c63d156738b4fbb6495378f8e2b58d2ce05c5886a1", func := "unravel/unravellaw32.SeifertGraph", spec := "seifertGraph", unfollowed := true, recurses := true, apart := false, narrowed := true }
def SeifertGraphUptoSaid : Prop := seifertGraphUptoRow.holds Try.pinned (OpenSpec.upto seifertGraphSpec)

/-- 'unravellaw32.SeifertBipartite', WHERE WHAT IT READS IS OF BULK AT MOST 1048576: true; the input reads as it did. -/
def seifertBipartiteUptoRow : OpenClaim := { program := "ytaghemilihaiaaa", sum := "caed3741528fe398809666c63d156738b4fbb6495378f8e2b58d2ce05c5886a1", func := "unravel/unravellaw32.SeifertBipartite", spec := "seifertBipartite", unfollowed := true, recurses := true, apart := false, narrowed := true }
def SeifertBipartiteUptoSaid : Prop := seifertBipartiteUptoRow.holds Try.pinned (OpenSpec.upto seifertBipartiteSpec)

/-- 'unravellaw32.SeifertIncoherent', WHERE WHAT IT READS IS OF BULK AT MOST 1048576: true; the input reads as it did. -/
def seifertIncoherentUptoRow : OpenClaim := { program := "ytaghemilihaiaaa", sum := "caed3741528fe398809666c63d156738b4fbb6495378f8e2b58d2ce05c5886a1", func := "unravel/unravellaw32.SeifertIncoherent", spec := "seifertIncoherent", unfollowed := true, recurses := true, apart := false, narrowed := true }
def SeifertIncoherentUptoSaid : Prop := seifertIncoherentUptoRow.holds Try.pinned (OpenSpec.upto seifertIncoherentSpec)

/-- 'unravellaw32.SeifertBraids', WHERE WHAT IT READS IS OF BULK AT MOST 1048576: true; the input reads as it did. -/
def seifertBraidsUptoRow : OpenClaim := { program := "ytaghemilihaiaaa", sum := "caed3741528fe398809666c63d156738b4fbb6495378f8e2b58d2ce05c5886a1", func := "unravel/unravellaw32.SeifertBraids", spec := "seifertBraids", unfollowed := true, recurses := true, apart := false, narrowed := true }
def SeifertBraidsUptoSaid : Prop := seifertBraidsUptoRow.holds Try.pinned (OpenSpec.upto seifertBraidsSpec)

/-- 'unravellaw32.SeifertSums', WHERE WHAT IT READS IS OF BULK AT MOST 1048576: true; the input reads as it did. -/
def seifertSumsUptoRow : OpenClaim := { program := "ytaghemilihaiaaa", sum := "caed3741528fe398809666c63d156738b4fbb6495378f8e2b58d2ce05c5886a1", func := "unravel/unravellaw32.SeifertSums", spec := "seifertSums", unfollowed := true, recurses := true, apart := false, narrowed := true }
def SeifertSumsUptoSaid : Prop := seifertSumsUptoRow.holds Try.pinned (OpenSpec.upto seifertSumsSpec)

/-- 'unravellaw32.SeifertMirrors', WHERE WHAT IT READS IS OF BULK AT MOST 1048576: true; the input reads as it did. -/
def seifertMirrorsUptoRow : OpenClaim := { program := "ytaghemilihaiaaa", sum := "caed3741528fe398809666c63d156738b4fbb6495378f8e2b58d2ce05c5886a1", func := "unravel/unravellaw32.SeifertMirrors", spec := "seifertMirrors", unfollowed := true, recurses := true, apart := false, narrowed := true }
def SeifertMirrorsUptoSaid : Prop := seifertMirrorsUptoRow.holds Try.pinned (OpenSpec.upto seifertMirrorsSpec)

end Rows
end Go.Proofs.Ytaghemilihaiaaa
