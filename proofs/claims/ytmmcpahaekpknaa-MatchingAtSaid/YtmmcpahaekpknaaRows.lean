/-
  No cell of these rows narrows 'for every input' (looked for: loops, veiled, ifaces, maps, wideKeys, modest, calm, conditions, laid).
  DERIVED. THE GIVEN ROWS OF THIS SEAT. 8 by the template 'for every input the law returns true; each argument reads behind the call as it read before'; 0 by the template 'total and deterministic' (their statements: YtmmcpahaekpknaaTotals.lean).
  GIVEN WITH THE SEED: the statements are not yours to turn. If you find one false, say at which input.
  Laid BY PROGRAM, IN A SANDBOX (cutbox-rows.mjs): the forced cells as the released guide's own fill.sh prints them over the translation 3b0e5911672c7fbc… (all of the seat's roots in one cut). By AI agents, Wed Nov 11 2026. No macro, syntax, notation, axiom, sorry.
-/
import Derived.Test.YtmmcpahaekpknaaChecked
import GoSem.Claim
import GoSem.ClaimJoined
import GoSem.ClaimMapViews
import Derived.JoinedTies
import Derived.KernelRfl
namespace Go.Proofs.Ytmmcpahaekpknaa
/- THE CELL 'sum', in the pinned program and in every row, IS THE sha256 OF THE DUMP (.gsa) THAT YtmmcpahaekpknaaProg.lean LOADS. Nothing in Lean hashes anything: it is a label: what it is worth is what the hold of that sum in a sandbox is worth. -/
noncomputable def Try.pinned : Pinned := { name := "ytmmcpahaekpknaa", sum := "3b0e5911672c7fbc072990851c56c7bcf3936bc7a944ae789c542ffd20bddcab", checked := Try.checked }
namespace Rows
def none {H : Type} : Left H := { results := [], args := [] }

/-- 'unravellaw16.MatchingValid': WHATEVER THE INPUT: true; the input reads as it did. -/
def matchingValidSpec : ChangeSpec := { name := "matchingValid", fn := fun _ => fun
  | [d] => { results := [.lit (.bool true)], args := [d] }
  | _ => none }
def matchingValidRow : OpenClaim := { program := "ytmmcpahaekpknaa", sum := "3b0e5911672c7fbc072990851c56c7bcf3936bc7a944ae789c542ffd20bddcab", func := "unravel/unravellaw16.MatchingValid", spec := "matchingValid", unfollowed := true, recurses := true, apart := false }
def MatchingValidSaid : Prop := matchingValidRow.holds Try.pinned (OpenSpec.ofChange matchingValidSpec)

/-- ITS FALSE NEIGHBOUR: 'it returns false'. Refute it at one input. -/
def matchingValidWrong : ChangeSpec := { name := "matchingValid", fn := fun _ => fun
  | [d] => { results := [.lit (.bool false)], args := [d] }
  | _ => none }
def MatchingValidWrongFalsely : Prop := matchingValidRow.holds Try.pinned (OpenSpec.ofChange matchingValidWrong)

/-- 'unravellaw16.MatchingAll': WHATEVER THE INPUT: true; the input reads as it did. -/
def matchingAllSpec : ChangeSpec := { name := "matchingAll", fn := fun _ => fun
  | [d] => { results := [.lit (.bool true)], args := [d] }
  | _ => none }
def matchingAllRow : OpenClaim := { program := "ytmmcpahaekpknaa", sum := "3b0e5911672c7fbc072990851c56c7bcf3936bc7a944ae789c542ffd20bddcab", func := "unravel/unravellaw16.MatchingAll", spec := "matchingAll", unfollowed := true, recurses := true, apart := false }
def MatchingAllSaid : Prop := matchingAllRow.holds Try.pinned (OpenSpec.ofChange matchingAllSpec)

/-- ITS FALSE NEIGHBOUR: 'it returns false'. Refute it at one input. -/
def matchingAllWrong : ChangeSpec := { name := "matchingAll", fn := fun _ => fun
  | [d] => { results := [.lit (.bool false)], args := [d] }
  | _ => none }
def MatchingAllWrongFalsely : Prop := matchingAllRow.holds Try.pinned (OpenSpec.ofChange matchingAllWrong)

/-- 'unravellaw16.MatchingPair': WHATEVER THE INPUT: true; the input reads as it did. -/
def matchingPairSpec : ChangeSpec := { name := "matchingPair", fn := fun _ => fun
  | [d1, d2] => { results := [.lit (.bool true)], args := [d1, d2] }
  | _ => none }
def matchingPairRow : OpenClaim := { program := "ytmmcpahaekpknaa", sum := "3b0e5911672c7fbc072990851c56c7bcf3936bc7a944ae789c542ffd20bddcab", func := "unravel/unravellaw16.MatchingPair", spec := "matchingPair", unfollowed := true, recurses := true, apart := false }
def MatchingPairSaid : Prop := matchingPairRow.holds Try.pinned (OpenSpec.ofChange matchingPairSpec)

/-- ITS FALSE NEIGHBOUR: 'it returns false'. Refute it at one input. -/
def matchingPairWrong : ChangeSpec := { name := "matchingPair", fn := fun _ => fun
  | [d1, d2] => { results := [.lit (.bool false)], args := [d1, d2] }
  | _ => none }
def MatchingPairWrongFalsely : Prop := matchingPairRow.holds Try.pinned (OpenSpec.ofChange matchingPairWrong)

/-- 'unravellaw16.MatchingCloses': WHATEVER THE INPUT: true; the input reads as it did. -/
def matchingClosesSpec : ChangeSpec := { name := "matchingCloses", fn := fun _ => fun
  | [d1, d2] => { results := [.lit (.bool true)], args := [d1, d2] }
  | _ => none }
def matchingClosesRow : OpenClaim := { program := "ytmmcpahaekpknaa", sum := "3b0e5911672c7fbc072990851c56c7bcf3936bc7a944ae789c542ffd20bddcab", func := "unravel/unravellaw16.MatchingCloses", spec := "matchingCloses", unfollowed := true, recurses := true, apart := false }
def MatchingClosesSaid : Prop := matchingClosesRow.holds Try.pinned (OpenSpec.ofChange matchingClosesSpec)

/-- ITS FALSE NEIGHBOUR: 'it returns false'. Refute it at one input. -/
def matchingClosesWrong : ChangeSpec := { name := "matchingCloses", fn := fun _ => fun
  | [d1, d2] => { results := [.lit (.bool false)], args := [d1, d2] }
  | _ => none }
def MatchingClosesWrongFalsely : Prop := matchingClosesRow.holds Try.pinned (OpenSpec.ofChange matchingClosesWrong)

/-- 'unravellaw16.MatchingArc': WHATEVER THE INPUT: true; the input reads as it did. -/
def matchingArcSpec : ChangeSpec := { name := "matchingArc", fn := fun _ => fun
  | [d1, d2] => { results := [.lit (.bool true)], args := [d1, d2] }
  | _ => none }
def matchingArcRow : OpenClaim := { program := "ytmmcpahaekpknaa", sum := "3b0e5911672c7fbc072990851c56c7bcf3936bc7a944ae789c542ffd20bddcab", func := "unravel/unravellaw16.MatchingArc", spec := "matchingArc", unfollowed := true, recurses := true, apart := false }
def MatchingArcSaid : Prop := matchingArcRow.holds Try.pinned (OpenSpec.ofChange matchingArcSpec)

/-- ITS FALSE NEIGHBOUR: 'it returns false'. Refute it at one input. -/
def matchingArcWrong : ChangeSpec := { name := "matchingArc", fn := fun _ => fun
  | [d1, d2] => { results := [.lit (.bool false)], args := [d1, d2] }
  | _ => none }
def MatchingArcWrongFalsely : Prop := matchingArcRow.holds Try.pinned (OpenSpec.ofChange matchingArcWrong)

/-- 'unravellaw16.MatchingRestores': WHATEVER THE INPUT: true; the input reads as it did. -/
def matchingRestoresSpec : ChangeSpec := { name := "matchingRestores", fn := fun _ => fun
  | [d1, d2] => { results := [.lit (.bool true)], args := [d1, d2] }
  | _ => none }
def matchingRestoresRow : OpenClaim := { program := "ytmmcpahaekpknaa", sum := "3b0e5911672c7fbc072990851c56c7bcf3936bc7a944ae789c542ffd20bddcab", func := "unravel/unravellaw16.MatchingRestores", spec := "matchingRestores", unfollowed := true, recurses := true, apart := false }
def MatchingRestoresSaid : Prop := matchingRestoresRow.holds Try.pinned (OpenSpec.ofChange matchingRestoresSpec)

/-- ITS FALSE NEIGHBOUR: 'it returns false'. Refute it at one input. -/
def matchingRestoresWrong : ChangeSpec := { name := "matchingRestores", fn := fun _ => fun
  | [d1, d2] => { results := [.lit (.bool false)], args := [d1, d2] }
  | _ => none }
def MatchingRestoresWrongFalsely : Prop := matchingRestoresRow.holds Try.pinned (OpenSpec.ofChange matchingRestoresWrong)

/-- 'unravellaw16.MatchingRank': WHATEVER THE INPUT: true; the input reads as it did. -/
def matchingRankSpec : ChangeSpec := { name := "matchingRank", fn := fun _ => fun
  | [d] => { results := [.lit (.bool true)], args := [d] }
  | _ => none }
def matchingRankRow : OpenClaim := { program := "ytmmcpahaekpknaa", sum := "3b0e5911672c7fbc072990851c56c7bcf3936bc7a944ae789c542ffd20bddcab", func := "unravel/unravellaw16.MatchingRank", spec := "matchingRank", unfollowed := true, recurses := true, apart := false }
def MatchingRankSaid : Prop := matchingRankRow.holds Try.pinned (OpenSpec.ofChange matchingRankSpec)

/-- ITS FALSE NEIGHBOUR: 'it returns false'. Refute it at one input. -/
def matchingRankWrong : ChangeSpec := { name := "matchingRank", fn := fun _ => fun
  | [d] => { results := [.lit (.bool false)], args := [d] }
  | _ => none }
def MatchingRankWrongFalsely : Prop := matchingRankRow.holds Try.pinned (OpenSpec.ofChange matchingRankWrong)

/-- 'unravellaw16.MatchingAt': WHATEVER THE INPUT: true; the input reads as it did. -/
def matchingAtSpec : ChangeSpec := { name := "matchingAt", fn := fun _ => fun
  | [d1, d2] => { results := [.lit (.bool true)], args := [d1, d2] }
  | _ => none }
def matchingAtRow : OpenClaim := { program := "ytmmcpahaekpknaa", sum := "3b0e5911672c7fbc072990851c56c7bcf3936bc7a944ae789c542ffd20bddcab", func := "unravel/unravellaw16.MatchingAt", spec := "matchingAt", unfollowed := true, recurses := true, apart := false }
def MatchingAtSaid : Prop := matchingAtRow.holds Try.pinned (OpenSpec.ofChange matchingAtSpec)

/-- ITS FALSE NEIGHBOUR: 'it returns false'. Refute it at one input. -/
def matchingAtWrong : ChangeSpec := { name := "matchingAt", fn := fun _ => fun
  | [d1, d2] => { results := [.lit (.bool false)], args := [d1, d2] }
  | _ => none }
def MatchingAtWrongFalsely : Prop := matchingAtRow.holds Try.pinned (OpenSpec.ofChange matchingAtWrong)

/- THE SECOND FORM. 'bulk': how many values and letters a reading holds, each counted each time it is reached (what is shared counts as often as it is met; a slice's spare places count too). A statement '..UptoSaid' is the law's where the arguments, and the package variables that the reading takes, are together of bulk at most 1048576: NARROWER than '..Said'. Prove '..Said' where nothing that the law and all that it calls make is longer than what came in: it says more and counts as full. Else prove '..UptoSaid'. A law counts once. -/
mutual
def uptoBulk {H : Type} : DataW H → Nat
  | .lit (.string bytes) => bytes.length + 1
  | .lit _ => 1
  | .nil => 1
  | .ptr d => uptoBulk d + 1
  | .slice elems spare => uptoBulkAll elems + uptoBulkAll spare + 1
  | .agg parts => uptoBulkAll parts + 1
  | .iface _ d => uptoBulk d + 1
  | .map entries => uptoBulkEntries entries + 1
  | .held _ => 1
def uptoBulkAll {H : Type} : List (DataW H) → Nat
  | [] => 0
  | d :: r => uptoBulk d + uptoBulkAll r
def uptoBulkEntries {H : Type} : List (Lit × DataW H) → Nat
  | [] => 0
  | x :: r => uptoBulkEntry x + uptoBulkEntries r
def uptoBulkEntry {H : Type} : Lit × DataW H → Nat
  | (.string bytes, d) => bytes.length + uptoBulk d + 1
  | (_, d) => uptoBulk d + 1
 end
def uptoSmall : (H : Type) → List (DataW H) → Bool := fun _ ds => decide (uptoBulkAll ds ≤ 1048576)
def OpenSpec.upto (s : _root_.Go.ChangeSpec) : _root_.Go.OpenSpec := { _root_.Go.OpenSpec.ofChange s with cond := some uptoSmall }

/-- 'unravellaw16.MatchingValid', WHERE WHAT IT READS IS OF BULK AT MOST 1048576: true; the input reads as it did. -/
def matchingValidUptoRow : OpenClaim := { program := "ytmmcpahaekpknaa", sum := "3b0e5911672c7fbc072990851c56c7bcf3936bc7a944ae789c542ffd20bddcab", func := "unravel/unravellaw16.MatchingValid", spec := "matchingValid", unfollowed := true, recurses := true, apart := false, narrowed := true }
def MatchingValidUptoSaid : Prop := matchingValidUptoRow.holds Try.pinned (OpenSpec.upto matchingValidSpec)

/-- 'unravellaw16.MatchingAll', WHERE WHAT IT READS IS OF BULK AT MOST 1048576: true; the input reads as it did. -/
def matchingAllUptoRow : OpenClaim := { program := "ytmmcpahaekpknaa", sum := "3b0e5911672c7fbc072990851c56c7bcf3936bc7a944ae789c542ffd20bddcab", func := "unravel/unravellaw16.MatchingAll", spec := "matchingAll", unfollowed := true, recurses := true, apart := false, narrowed := true }
def MatchingAllUptoSaid : Prop := matchingAllUptoRow.holds Try.pinned (OpenSpec.upto matchingAllSpec)

/-- 'unravellaw16.MatchingPair', WHERE WHAT IT READS IS OF BULK AT MOST 1048576: true; the input reads as it did. -/
def matchingPairUptoRow : OpenClaim := { program := "ytmmcpahaekpknaa", sum := "3b0e5911672c7fbc072990851c56c7bcf3936bc7a944ae789c542ffd20bddcab", func := "unravel/unravellaw16.MatchingPair", spec := "matchingPair", unfollowed := true, recurses := true, apart := false, narrowed := true }
def MatchingPairUptoSaid : Prop := matchingPairUptoRow.holds Try.pinned (OpenSpec.upto matchingPairSpec)

/-- 'unravellaw16.MatchingCloses', WHERE WHAT IT READS IS OF BULK AT MOST 1048576: true; the input reads as it did. -/
def matchingClosesUptoRow : OpenClaim := { program := "ytmmcpahaekpknaa", sum := "3b0e5911672c7fbc072990851c56c7bcf3936bc7a944ae789c542ffd20bddcab", func := "unravel/unravellaw16.MatchingCloses", spec := "matchingCloses", unfollowed := true, recurses := true, apart := false, narrowed := true }
def MatchingClosesUptoSaid : Prop := matchingClosesUptoRow.holds Try.pinned (OpenSpec.upto matchingClosesSpec)

/-- 'unravellaw16.MatchingArc', WHERE WHAT IT READS IS OF BULK AT MOST 1048576: true; the input reads as it did. -/
def matchingArcUptoRow : OpenClaim := { program := "ytmmcpahaekpknaa", sum := "3b0e5911672c7fbc072990851c56c7bcf3936bc7a944ae789c542ffd20bddcab", func := "unravel/unravellaw16.MatchingArc", spec := "matchingArc", unfollowed := true, recurses := true, apart := false, narrowed := true }
def MatchingArcUptoSaid : Prop := matchingArcUptoRow.holds Try.pinned (OpenSpec.upto matchingArcSpec)

/-- 'unravellaw16.MatchingRestores', WHERE WHAT IT READS IS OF BULK AT MOST 1048576: true; the input reads as it did. -/
def matchingRestoresUptoRow : OpenClaim := { program := "ytmmcpahaekpknaa", sum := "3b0e5911672c7fbc072990851c56c7bcf3936bc7a944ae789c542ffd20bddcab", func := "unravel/unravellaw16.MatchingRestores", spec := "matchingRestores", unfollowed := true, recurses := true, apart := false, narrowed := true }
def MatchingRestoresUptoSaid : Prop := matchingRestoresUptoRow.holds Try.pinned (OpenSpec.upto matchingRestoresSpec)

/-- 'unravellaw16.MatchingRank', WHERE WHAT IT READS IS OF BULK AT MOST 1048576: true; the input reads as it did. -/
def matchingRankUptoRow : OpenClaim := { program := "ytmmcpahaekpknaa", sum := "3b0e5911672c7fbc072990851c56c7bcf3936bc7a944ae789c542ffd20bddcab", func := "unravel/unravellaw16.MatchingRank", spec := "matchingRank", unfollowed := true, recurses := true, apart := false, narrowed := true }
def MatchingRankUptoSaid : Prop := matchingRankUptoRow.holds Try.pinned (OpenSpec.upto matchingRankSpec)

/-- 'unravellaw16.MatchingAt', WHERE WHAT IT READS IS OF BULK AT MOST 1048576: true; the input reads as it did. -/
def matchingAtUptoRow : OpenClaim := { program := "ytmmcpahaekpknaa", sum := "3b0e5911672c7fbc072990851c56c7bcf3936bc7a944ae789c542ffd20bddcab", func := "unravel/unravellaw16.MatchingAt", spec := "matchingAt", unfollowed := true, recurses := true, apart := false, narrowed := true }
def MatchingAtUptoSaid : Prop := matchingAtUptoRow.holds Try.pinned (OpenSpec.upto matchingAtSpec)

end Rows
end Go.Proofs.Ytmmcpahaekpknaa
