/-
  The contract of diagram.Clone: an equal diagram in memory of its own.
-/
import Derived.Test.YtaghemilihaiaaaClone
import Derived.Test.YtaghemilihaiaaaLists
import Derived.Test.YtaghemilihaiaaaComp
import Derived.Deep.RegionWith
namespace Go.Proofs.Ytaghemilihaiaaa
open Go.RowKit

/-- a diagram in fresh memory: its signs from B on, its mates apart from them -/
structure Fresh (w : World) (B : Nat) (v1 v2 : Value) (sg mt : List Int) : Prop where
  os : OI w B v1 sg
  om : OI w B v2 mt
  ne : ∀ g, v1.ownBlock = some g → v2.ownBlock ≠ some g

def ClonePost (sg mt : List Int) (L : Int) (w : World) (e : Ending) (w' : World) : Prop :=
  ∃ v1 v2, e = .returned (.agg #[v1, v2, .int .i64 L]) ∧ Fresh w' w.heap.size v1 v2 sg mt ∧ Below w.heap.size w w'

theorem Fresh.below {w w' : World} {B C : Nat} {v1 v2 : Value} {sg mt : List Int} (h : Fresh w B v1 v2 sg mt) (hb : Below C w w') (hC : w.heap.size ≤ C) : Fresh w' B v1 v2 sg mt :=
  ⟨h.os.below hb hC, h.om.below hb hC, h.ne⟩
theorem Fresh.mono {w : World} {B B' : Nat} {v1 v2 : Value} {sg mt : List Int} (h : Fresh w B v1 v2 sg mt) (hB : B' ≤ B) : Fresh w B' v1 v2 sg mt := ⟨h.os.mono hB, h.om.mono hB, h.ne⟩

/-- a result's box that nothing was stored into yet -/
structure ZBox (w : World) (b : Nat) : Prop where
  z0 : w.cell? ⟨b, 0, none⟩ = some (.slice none 0 0)
  z1 : w.cell? ⟨b, 1, none⟩ = some (.slice none 0 0)
  z2 : w.cell? ⟨b, 2, none⟩ = some (.int .i64 0)
  f0 : w.frozen? ⟨b, 0, none⟩ = false
  f1 : w.frozen? ⟨b, 1, none⟩ = false
  f2 : w.frozen? ⟨b, 2, none⟩ = false
  lt : b < w.heap.size
theorem ZBox.below {w w' : World} {b : Nat} (h : ZBox w b) (hb : Below w.heap.size w w') : ZBox w' b :=
  ⟨(hb.cell (p := ⟨b, 0, none⟩) h.lt).trans h.z0, (hb.cell (p := ⟨b, 1, none⟩) h.lt).trans h.z1, (hb.cell (p := ⟨b, 2, none⟩) h.lt).trans h.z2,
    (hb.frozen (p := ⟨b, 0, none⟩) h.lt).trans h.f0, (hb.frozen (p := ⟨b, 1, none⟩) h.lt).trans h.f1, (hb.frozen (p := ⟨b, 2, none⟩) h.lt).trans h.f2, Nat.lt_of_lt_of_le h.lt hb.size⟩
theorem ZBox.drew {w : World} {b : Nat} (h : ZBox w b) : ZBox w.drew b :=
  ⟨by simpa using h.z0, by simpa using h.z1, by simpa using h.z2, by simpa using h.f0, by simpa using h.f1, by simpa using h.f2, by simpa using h.lt⟩
theorem ZBox.new {w : World} {b : Nat} (h : w.heap[b]? = some (.cells #[.slice none 0 0, .slice none 0 0, .int .i64 0] 24 (0, 0))) (hlt : b < w.heap.size) : ZBox w b := by
  refine ⟨?_, ?_, ?_, frozen_of_row _ _ _ _ _ h, frozen_of_row _ _ _ _ _ h, frozen_of_row _ _ _ _ _ h, hlt⟩ <;> (rw [cell_of_row _ _ _ _ _ _ h]; rfl)

theorem clone_end {w W w1 w2 : World} {sg mt : List Int} {v1 v2 : Value} (hb : Below w.heap.size w W) (hs : W.heap.size = w.heap.size + 2) (hb1 : Below W.drew.heap.size W.drew w1) (ho1 : OI w1 W.drew.heap.size v1 sg) (hb2 : Below w1.heap.size w1 w2) (ho2 : OI w2 w1.heap.size v2 mt) (x y z : Value) :
    Fresh (((w2.setCell ⟨w.heap.size + 1, 0, none⟩ x).setCell ⟨w.heap.size + 1, 1, none⟩ y).setCell ⟨w.heap.size + 1, 2, none⟩ z) w.heap.size v1 v2 sg mt ∧
    Below w.heap.size w (((w2.setCell ⟨w.heap.size + 1, 0, none⟩ x).setCell ⟨w.heap.size + 1, 1, none⟩ y).setCell ⟨w.heap.size + 1, 2, none⟩ z) := by
  have hsd : W.drew.heap.size = w.heap.size + 2 := by simpa using hs
  have hs1 := hb1.size
  have hblk : ∀ g, w.heap.size + 1 < g → (((w2.setCell ⟨w.heap.size + 1, 0, none⟩ x).setCell ⟨w.heap.size + 1, 1, none⟩ y).setCell ⟨w.heap.size + 1, 2, none⟩ z).heap[g]? = w2.heap[g]? := fun g hg => by
    rw [Below.heap_setCell _ _ _ g (by simp; omega), Below.heap_setCell _ _ _ g (by simp; omega), Below.heap_setCell _ _ _ g (by simp; omega)]
  refine ⟨⟨?_, ?_, fun g hg1 hg2 => ?_⟩, ?_⟩
  · exact ((ho1.below hb2 (Nat.le_refl _)).keep fun g hg => hblk g (by have := (ho1.lt g hg).1; omega)).mono (by omega)
  · exact (ho2.keep fun g hg => hblk g (by have := (ho2.lt g hg).1; omega)).mono (by omega)
  · have h1 := (ho1.lt g hg1).2
    have h2 := (ho2.lt g hg2).1
    omega
  · have h1 : Below w.heap.size w w2 := (hb.drew.trans (hb1.mono (by omega))).trans (hb2.mono (by omega))
    exact ((h1.setCell (by simp) _).setCell (by simp) _).setCell (by simp) _

end Go.Proofs.Ytaghemilihaiaaa

