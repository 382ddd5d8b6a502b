/-
  The contract of diagram.Clone: an equal diagram in memory of its own.
-/
import Derived.Test.YtkanpcdjhaepjaaClone
import Derived.Test.YtkanpcdjhaepjaaLists
import Derived.Test.YtkanpcdjhaepjaaComp
import Derived.Deep.RegionWith
namespace Go.Proofs.Ytkanpcdjhaepjaa
open Go.RowKit

/-- a diagram in fresh memory: its signs from B on, its mates apart from them -/
structure Fresh (w : World) (B : Nat) (v1 v2 : Value) (sg mt : List Int) : Prop where
  os : OI w B v1 sg
  om : OI w B v2 mt
  ne : ∀ g, v1.ownBlock = some g → v2.ownBlock ≠ some g

def ClonePost (sg mt : List Int) (L : Int) (w : World) (e : Ending) (w' : World) : Prop :=
  ∃ v1 v2, e = .returned (.agg #[v1, v2, .int .i64 L]) ∧ Fresh w' w.heap.size v1 v2 sg mt ∧ Below w.heap.size w w'

theorem Fresh.below {w w' : World} {B C : Nat} {v1 v2 : Value} {sg mt : List Int} (h : Fresh w B v1 v2 sg mt) (hb : Below C w w') (hC : w.heap.size ≤ C) : Fresh w' B v1 v2 sg mt :=
  ⟨h.os.below hb hC, h.om.below hb hC, h.ne⟩
theorem Fresh.mono {w : World} {B B' : Nat} {v1 v2 : Value} {sg mt : List Int} (h : Fresh w B v1 v2 sg mt) (hB : B' ≤ B) : Fresh w B' v1 v2 sg mt := ⟨h.os.mono hB, h.om.mono hB, h.ne⟩

/-- a result's box that nothing was stored into yet -/
structure ZBox (w : World) (b : Nat) : Prop where
  z0 : w.cell? ⟨b, 0, none⟩ = some (.slice none 0 0)
  z1 : w.cell? ⟨b, 1, none⟩ = some (.slice none 0 0)
  z2 : w.cell? ⟨b, 2, none⟩ = some (.int .i64 0)
  f0 : w.frozen? ⟨b, 0, none⟩ = false
  f1 : w.frozen? ⟨b, 1, none⟩ = false
  f2 : w.frozen? ⟨b, 2, none⟩ = false
  lt : b < w.heap.size
theorem ZBox.below {w w' : World} {b : Nat} (h : ZBox w b) (hb : Below w.heap.size w w') : ZBox w' b :=
  ⟨(hb.cell (p := ⟨b, 0, none⟩) h.lt).trans h.z0, (hb.cell (p := ⟨b, 1, none⟩) h.lt).trans h.z1, (hb.cell (p := ⟨b, 2, none⟩) h.lt).trans h.z2,
    (hb.frozen (p := ⟨b, 0, none⟩) h.lt).trans h.f0, (hb.frozen (p := ⟨b, 1, none⟩) h.lt).trans h.f1, (hb.frozen (p := ⟨b, 2, none⟩) h.lt).trans h.f2, Nat.lt_of_lt_of_le h.lt hb.size⟩
theorem ZBox.drew {w : World} {b : Nat} (h : ZBox w b) : ZBox w.drew b :=
  ⟨by simpa using h.z0, by simpa using h.z1, by simpa using h.z2, by simpa using h.f0, by simpa using h.f1, by simpa using h.f2, by simpa using h.lt⟩
theorem ZBox.new {w : World} {b : Nat} (h : w.heap[b]? = some (.cells #[.slice none 0 0, .slice none 0 0, .int .i64 0] 24 (0, 0))) (hlt : b < w.heap.size) : ZBox w b := by
  refine ⟨?_, ?_, ?_, frozen_of_row _ _ _ _ _ h, frozen_of_row _ _ _ _ _ h, frozen_of_row _ _ _ _ _ h, hlt⟩ <;> (rw [cell_of_row _ _ _ _ _ _ h]; rfl)

theorem clone_end {w W w1 w2 : World} {sg mt : List Int} {v1 v2 : Value} (hb : Below w.heap.size w W) (hs : W.heap.size = w.heap.size + 2) (hb1 : Below W.drew.heap.size W.drew w1) (ho1 : OI w1 W.drew.heap.size v1 sg) (hb2 : Below w1.heap.size w1 w2) (ho2 : OI w2 w1.heap.size v2 mt) (x y z : Value) :
    Fresh (((w2.setCell ⟨w.heap.size + 1, 0, none⟩ x).setCell ⟨w.heap.size + 1, 1, none⟩ y).setCell ⟨w.heap.size + 1, 2, none⟩ z) w.heap.size v1 v2 sg mt ∧
    Below w.heap.size w (((w2.setCell ⟨w.heap.size + 1, 0, none⟩ x).setCell ⟨w.heap.size + 1, 1, none⟩ y).setCell ⟨w.heap.size + 1, 2, none⟩ z) := by
  have hsd : W.drew.heap.size = w.heap.size + 2 := by simpa using hs
  have hs1 := hb1.size
  have hblk : ∀ g, w.heap.size + 1 < g → (((w2.setCell ⟨w.heap.size + 1, 0, none⟩ x).setCell ⟨w.heap.size + 1, 1, none⟩ y).setCell ⟨w.heap.size + 1, 2, none⟩ z).heap[g]? = w2.heap[g]? := fun g hg => by
    rw [Below.heap_setCell _ _ _ g (by simp; omega), Below.heap_setCell _ _ _ g (by simp; omega), Below.heap_setCell _ _ _ g (by simp; omega)]
  refine ⟨⟨?_, ?_, fun g hg1 hg2 => ?_⟩, ?_⟩
  · exact ((ho1.below hb2 (Nat.le_refl _)).keep fun g hg => hblk g (by have := (ho1.lt g hg).1; omega)).mono (by omega)
  · exact (ho2.keep fun g hg => hblk g (by have := (ho2.lt g hg).1; omega)).mono (by omega)
  · have h1 := (ho1.lt g hg1).2
    have h2 := (ho2.lt g hg2).1
    omega
  · have h1 : Below w.heap.size w w2 := (hb.drew.trans (hb1.mono (by omega))).trans (hb2.mono (by omega))
    exact ((h1.setCell (by simp) _).setCell (by simp) _).setCell (by simp) _

set_option maxHeartbeats 8000000 in
theorem dclone_any (A1 A2 : Option Addr) (c1 c2 : Nat) (sg mt : List Int) (L : Int) (w : World) (S : Nat → Prop) (hx : RI w S A1 sg) (hy : RI w S A2 mt) (hS : ∀ b, S b → b < w.heap.size) (hm1 : sg.length < 1099511627776) (hm2 : mt.length < 1099511627776) :
    Calls Try.prog 22 #[.agg #[.slice A1 sg.length c1, .slice A2 mt.length c2, .int .i64 L]] w (ClonePost sg mt L w) := by
  have hd0 := DBox.start (c1 := c1) (c2 := c2) (L := L) S hx hy hS
  have hb0 : Below w.heap.size w (w.alloc (.cells #[.slice A1 sg.length c1, .slice A2 mt.length c2, .int .i64 L] 24)) := (Below.refl _ _).alloc (Nat.le_refl _) _
  have hs0 : (w.alloc (.cells #[.slice A1 sg.length c1, .slice A2 mt.length c2, .int .i64 L] 24)).heap.size = w.heap.size + 1 := by simp
  have hz0 := heap_alloc_new (w.alloc (.cells #[.slice A1 sg.length c1, .slice A2 mt.length c2, .int .i64 L] 24)) (.cells #[.slice none 0 0, .slice none 0 0, .int .i64 0] 24)
  have hd1 := hd0.below ((Below.refl _ _).alloc (Nat.le_refl _) (.cells #[.slice none 0 0, .slice none 0 0, .int .i64 0] 24))
  have hb1 := hb0.alloc (by simp) (.cells #[.slice none 0 0, .slice none 0 0, .int .i64 0] 24)
  clear hx hy hS
  go_enter Try.func22, Try.ntmps22
  go_wp2_with fail
  generalize hW : (w.alloc (.cells #[.slice A1 sg.length c1, .slice A2 mt.length c2, .int .i64 L] 24)).alloc (.cells #[.slice none 0 0, .slice none 0 0, .int .i64 0] 24) = W at *
  rw [hs0] at hz0
  have hsW : W.heap.size = w.heap.size + 2 := by rw [← hW]; simp
  have HD := Lib.hid hd1
  have HB := Lib.hid hb1
  have HZ := Lib.hid hz0
  have HS := Lib.hid hsW
  clear hd0 hd1 hb0 hb1 hs0 hz0 hsW hW
  have k0 := HD.out.c0
  have k1 := HD.out.c1
  have k2 := HD.out.c2
  have HZ0 := Lib.hid ((ZBox.new HZ.out (by have := HS.out; omega)).drew)
  have HM1 := Lib.hid hm1
  have HM2 := Lib.hid hm2
  have HDd := Lib.hid HD.out.drew
  clear hm1 hm2
  go_region_with (first
    | (go_at_call 49; with_reducible (show Calls _ _ #[Value.slice A1 sg.length c1] _ _); refine (clone_any A1 c1 sg W.drew (· < W.drew.heap.size) HDd.out.rs (fun _ h => h) HM1.out).mono ?_; rintro e w1 ⟨v1, rfl, ho1, hb1⟩; have HB1 := Lib.hid hb1; have HO1 := Lib.hid ho1; have HD1 := Lib.hid (HDd.out.below hb1); have HZ1 := Lib.hid (HZ0.out.below hb1); have j1 := HD1.out.c1; have j2 := HD1.out.c2; clear hb1 ho1)
    | (go_at_call 49; with_reducible (show Calls _ _ #[Value.slice A2 mt.length c2] _ _); refine (clone_any A2 c2 mt w1 (· < w1.heap.size) HD1.out.rm (fun _ h => h) HM2.out).mono ?_; rintro e w2 ⟨v2, rfl, ho2, hb2⟩; have HB2 := Lib.hid hb2; have HO2 := Lib.hid ho2; have HD2 := Lib.hid (HD1.out.below hb2); have l2 := HD2.out.c2; have HZ2 := Lib.hid (HZ1.out.below hb2); have y0 := HZ2.out.z0; have y1 := HZ2.out.z1; have y2 := HZ2.out.z2; have g0 := HZ2.out.f0; have g1 := HZ2.out.f1; have g2 := HZ2.out.f2; obtain ⟨a1, d1, rfl, -, -, -⟩ := HO1.out.shape; obtain ⟨a2, d2, rfl, -, -, -⟩ := HO2.out.shape; clear hb2 ho2))
  all_goals
    have hend := clone_end HB.out HS.out HB1.out HO1.out HB2.out HO2.out (.slice a1 sg.length d1) (.slice a2 mt.length d2) (.int .i64 L)
    have HEND := Lib.hid hend
    clear hend k0 k1 k2 j1 j2 l2 g0 g1 g2 HD HZ HS HZ0 HM1 HM2 HDd HB1 HD1 HZ1 HB2 HD2 HZ2 HO1 HO2 HB
    go_wp2_with fail
    refine bodyPost_ret (v := .agg #[.slice a1 sg.length d1, .slice a2 mt.length d2, .int .i64 L]) (by simp [results, Try.results22, go_sem, y0, y1, y2]) rfl ?_
    exact ⟨_, _, rfl, HEND.out.1, HEND.out.2⟩
end Go.Proofs.Ytkanpcdjhaepjaa
