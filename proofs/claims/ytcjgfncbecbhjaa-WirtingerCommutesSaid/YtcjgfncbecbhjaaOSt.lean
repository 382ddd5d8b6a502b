/-
  What a law holds behind wirtinger.Of: the diagram's box and the group's.
-/
import Derived.Test.YtcjgfncbecbhjaaOf
import Derived.Test.YtcjgfncbecbhjaaRCmpM
namespace Go.Proofs.Ytcjgfncbecbhjaa
open Go.RowKit

/-- what the law reads -/
structure OSt (w : World) (bd gb : Nat) (A1 A2 Ac Aw : Option Addr) (c1 c2 cc cw : Nat) (sg mt : List Int) (l m : Nat) : Prop where
  db : DBox w bd A1 A2 c1 c2 sg mt (l : Int)
  gx : GBox w gb ((m : Int) + (l : Int)) (.slice Ac (m + l) cc) (.slice Aw sg.length cw)
  cm : RI w (· < w.heap.size) Ac (cmpL sg mt l)
  wd : RL w (· < w.heap.size) Aw (wrdL sg mt sg.length)
section
variable {w w' : World} {bd gb : Nat} {A1 A2 Ac Aw : Option Addr} {c1 c2 cc cw : Nat} {sg mt : List Int} {l m : Nat}
theorem OSt.below (h : OSt w bd gb A1 A2 Ac Aw c1 c2 cc cw sg mt l m) (hb : Below w.heap.size w w') : OSt w' bd gb A1 A2 Ac Aw c1 c2 cc cw sg mt l m := by
  have hs := hb.size
  exact ⟨h.db.below hb, h.gx.keep (hb.block gb h.gx.lt), (h.cm.below hb).imp fun b hb => by omega, (h.wd.below hb).imp fun b hb => by omega⟩
theorem OSt.pack (h : OSt w bd gb A1 A2 Ac Aw c1 c2 cc cw sg mt l m) : Hid (OSt w bd gb A1 A2 Ac Aw c1 c2 cc cw sg mt l m) ∧ w.cell? ⟨bd, 0, none⟩ = some (.slice A1 sg.length c1) ∧ w.cell? ⟨bd, 1, none⟩ = some (.slice A2 mt.length c2) ∧ w.cell? ⟨bd, 2, none⟩ = some (.int .i64 (l : Int)) ∧
    w.cell? ⟨gb, 0, none⟩ = some (.int .i64 ((m : Int) + (l : Int))) ∧ w.cell? ⟨gb, 1, none⟩ = some (.slice Ac (m + l) cc) ∧ w.cell? ⟨gb, 2, none⟩ = some (.slice Aw sg.length cw) :=
  ⟨h, h.db.c0, h.db.c1, h.db.c2, h.gx.cells.1, h.gx.cells.2.1, h.gx.cells.2.2⟩
end
end Go.Proofs.Ytcjgfncbecbhjaa

