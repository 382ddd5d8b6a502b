/-
  wirtinger.Of of a diagram that is not valid; what the law of Of reads.
-/
import Derived.Test.YtcjgfncbecbhjaaSame
import Derived.Test.YtcjgfncbecbhjaaRWords
import Derived.Test.YtcjgfncbecbhjaaRCmp
import Derived.Test.YtcjgfncbecbhjaaDEqual
import Derived.Test.YtcjgfncbecbhjaaAw22
import Derived.Test.YtcjgfncbecbhjaaRValid
import Derived.Test.YtcjgfncbecbhjaaDArg
namespace Go.Proofs.Ytcjgfncbecbhjaa
open Go.RowKit

section
variable (A1 A2 : Option Addr) (c1 c2 : Nat) (sg mt : List Int) (L : Int) (w : World) (S : Nat → Prop) (hx : RI w S A1 sg) (hy : RI w S A2 mt) (hS : ∀ b, S b → b < w.heap.size)
include hx hy hS
set_option maxHeartbeats 2000000 in
theorem of_no (hm1 : sg.length ≤ maxLen) (hm2 : mt.length ≤ maxLen) (hno : ¬ IsD sg mt L) :
    Calls Try.prog 18 #[.agg #[.slice A1 sg.length c1, .slice A2 mt.length c2, .int .i64 L]] w fun e w' => e = .returned (.tuple #[.agg #[.int .i64 0, .slice none 0 0, .slice none 0 0], .int .i64 1]) ∧ Below w.heap.size w w' := by
  have HD := Lib.hid (DBox.start (c1 := c1) (c2 := c2) (L := L) S hx hy hS)
  have H := Lib.hid (decide_eq_false hno)
  clear hx hy hS hno
  go_enter Try.func18, Try.ntmps18
  go_wp2_with fail
  refine (dvalid_is _ false ((HD.out.below ((Below.refl _ _).alloc (Nat.le_refl _) _)).rs) ((HD.out.below ((Below.refl _ _).alloc (Nat.le_refl _) _)).rm) (fun _ h => h) hm1 hm2 H.out).mono ?_
  rintro e w1 ⟨rfl, hb1⟩
  have HG1 : Hid (GBox w1 (w.heap.size + 1) 0 (.slice none 0 0) (.slice none 0 0)) := by
    have := heap_alloc_new (w.alloc (.cells #[.slice A1 sg.length c1, .slice A2 mt.length c2, .int .i64 L] 24)) (.cells #[.int .i64 0, .slice none 0 0, .slice none 0 0] 35)
    refine GBox.keep (by simpa [GBox] using this) (hb1.block _ (by simp))
  have HB1 : Hid (Below w.heap.size w w1) := (((Below.refl w.heap.size w).alloc (Nat.le_refl _) _).alloc (by simp) _).trans (hb1.mono (by simp; omega))
  obtain ⟨z0, z1, z2⟩ := HG1.out.cells
  have f0 := HG1.out.free 0
  have f1 := HG1.out.free 1
  have f2 := HG1.out.free 2
  clear hb1 HD
  go_wp2_with fail
  have HF := Lib.hid (((HG1.out.set0 0).set1 (.slice none 0 0)).set2 (.slice none 0 0))
  have HFB : Hid (Below w.heap.size w (((w1.setCell ⟨w.heap.size + 1, 0, none⟩ (.int .i64 0)).setCell ⟨w.heap.size + 1, 1, none⟩ (.slice none 0 0)).setCell ⟨w.heap.size + 1, 2, none⟩ (.slice none 0 0))) :=
    ((HB1.out.setCell (by simp) _).setCell (by simp) _).setCell (by simp) _
  generalize (((w1.setCell ⟨w.heap.size + 1, 0, none⟩ (.int .i64 0)).setCell ⟨w.heap.size + 1, 1, none⟩ (.slice none 0 0)).setCell ⟨w.heap.size + 1, 2, none⟩ (.slice none 0 0)) = wf at HF HFB ⊢
  obtain ⟨y0, y1, y2⟩ := HF.out.cells
  clear z0 z1 z2 f0 f1 f2
  refine bodyPost_ret (v := .tuple #[.agg #[.int .i64 0, .slice none 0 0, .slice none 0 0], .int .i64 1]) (by simp [results, Try.results18, go_sem, y0, y1, y2]; done) rfl ?_
  exact ⟨rfl, HFB.out⟩
end
/-- what the law reads -/
structure OSt (w : World) (bd gb : Nat) (A1 A2 Ac Aw : Option Addr) (c1 c2 cc cw : Nat) (sg mt : List Int) (l m : Nat) : Prop where
  db : DBox w bd A1 A2 c1 c2 sg mt (l : Int)
  gx : GBox w gb ((m : Int) + (l : Int)) (.slice Ac (m + l) cc) (.slice Aw sg.length cw)
  cm : RI w (· < w.heap.size) Ac (cmpL sg mt l)
  wd : RL w (· < w.heap.size) Aw (wrdL sg mt sg.length)
section
variable {w w' : World} {bd gb : Nat} {A1 A2 Ac Aw : Option Addr} {c1 c2 cc cw : Nat} {sg mt : List Int} {l m : Nat}
theorem OSt.below (h : OSt w bd gb A1 A2 Ac Aw c1 c2 cc cw sg mt l m) (hb : Below w.heap.size w w') : OSt w' bd gb A1 A2 Ac Aw c1 c2 cc cw sg mt l m := by
  have hs := hb.size
  exact ⟨h.db.below hb, h.gx.keep (hb.block gb h.gx.lt), (h.cm.below hb).imp fun b hb => by omega, (h.wd.below hb).imp fun b hb => by omega⟩
theorem OSt.pack (h : OSt w bd gb A1 A2 Ac Aw c1 c2 cc cw sg mt l m) : Hid (OSt w bd gb A1 A2 Ac Aw c1 c2 cc cw sg mt l m) ∧ w.cell? ⟨bd, 0, none⟩ = some (.slice A1 sg.length c1) ∧ w.cell? ⟨bd, 1, none⟩ = some (.slice A2 mt.length c2) ∧ w.cell? ⟨bd, 2, none⟩ = some (.int .i64 (l : Int)) ∧
    w.cell? ⟨gb, 0, none⟩ = some (.int .i64 ((m : Int) + (l : Int))) ∧ w.cell? ⟨gb, 1, none⟩ = some (.slice Ac (m + l) cc) ∧ w.cell? ⟨gb, 2, none⟩ = some (.slice Aw sg.length cw) :=
  ⟨h, h.db.c0, h.db.c1, h.db.c2, h.gx.cells.1, h.gx.cells.2.1, h.gx.cells.2.2⟩
end
end Go.Proofs.Ytcjgfncbecbhjaa

