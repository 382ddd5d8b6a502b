/-
  The contract of diagram.Renumber.
-/
import Derived.Test.YtkanpcdjhaepjaaRenM
import Derived.Test.YtkanpcdjhaepjaaDClone
import Derived.Deep.RegionHeld3
import Derived.IntWalk
import Derived.Deep.DeepCutAuto
namespace Go.Proofs.Ytkanpcdjhaepjaa
open Go.RowKit

def RenNo (k : Int) (w : World) (e : Ending) (w' : World) : Prop := e = .returned (.tuple #[.agg #[.slice none 0 0, .slice none 0 0, .int .i64 0], .int .i64 k]) ∧ Below w.heap.size w w'

/-- the box, the diagram, the order, the result's box, and the row of the numbers -/
structure RSt (w0 w : World) (gp : Nat) (A1 A2 A3 : Option Addr) (c1 c2 : Nat) (sg mt xs : List Int) (L : Int) (p : List Int) : Prop where
  c0 : w.cell? ⟨w0.heap.size, 0, none⟩ = some (.slice A1 sg.length c1)
  c1 : w.cell? ⟨w0.heap.size, 1, none⟩ = some (.slice A2 mt.length c2)
  c2 : w.cell? ⟨w0.heap.size, 2, none⟩ = some (.int .i64 L)
  rs : RI w (· < w0.heap.size) A1 sg
  rm : RI w (· < w0.heap.size) A2 mt
  rx : RI w (· < w0.heap.size) A3 xs
  zb : ZBox w (w0.heap.size + 1)
  pr : PRow w0 w w0.heap.size gp sg.length p
  pl : p.length = sg.length
  gb : w0.heap.size + 1 < gp
section
variable {w0 w w' : World} {gp : Nat} {A1 A2 A3 : Option Addr} {c1 c2 : Nat} {sg mt xs : List Int} {L : Int} {p : List Int}
theorem ZBox.keep {b : Nat} (h : ZBox w b) (hb : w'.heap[b]? = w.heap[b]?) (hlt : b < w'.heap.size) : ZBox w' b :=
  ⟨(World.cell?_of_block (a := ⟨b, 0, none⟩) hb).trans h.z0, (World.cell?_of_block (a := ⟨b, 1, none⟩) hb).trans h.z1, (World.cell?_of_block (a := ⟨b, 2, none⟩) hb).trans h.z2,
    (World.frozen?_of_block (a := ⟨b, 0, none⟩) hb).trans h.f0, (World.frozen?_of_block (a := ⟨b, 1, none⟩) hb).trans h.f1, (World.frozen?_of_block (a := ⟨b, 2, none⟩) hb).trans h.f2, hlt⟩
theorem RSt.below (h : RSt w0 w gp A1 A2 A3 c1 c2 sg mt xs L p) (hb : Below w.heap.size w w') : RSt w0 w' gp A1 A2 A3 c1 c2 sg mt xs L p := by
  have h1 := h.pr.size
  have h2 := h.gb
  have h3 := hb.size
  have h0 : w0.heap.size < w.heap.size := by omega
  exact ⟨(hb.cell (p := ⟨w0.heap.size, 0, none⟩) h0).trans h.c0, (hb.cell (p := ⟨w0.heap.size, 1, none⟩) h0).trans h.c1, (hb.cell (p := ⟨w0.heap.size, 2, none⟩) h0).trans h.c2,
    h.rs.keep fun b hlt => hb.block b (by omega), h.rm.keep fun b hlt => hb.block b (by omega), h.rx.keep fun b hlt => hb.block b (by omega), h.zb.below hb,
    ⟨h.pr.own.below hb (Nat.le_refl _), h.pr.below.trans (hb.mono (by omega)), by omega⟩, h.pl, h.gb⟩
theorem RSt.drew (h : RSt w0 w gp A1 A2 A3 c1 c2 sg mt xs L p) : RSt w0 w.drew gp A1 A2 A3 c1 c2 sg mt xs L p := h.below (Below.refl _ _).drew
theorem RSt.store (h : RSt w0 w gp A1 A2 A3 c1 c2 sg mt xs L p) (k : Nat) (y : Int) : RSt w0 (w.setCell ⟨gp, k, none⟩ (.int .i64 y)) gp A1 A2 A3 c1 c2 sg mt xs L (p.set k y) := by
  have h2 := h.gb
  have h3 := h.zb.lt
  have hc : ∀ b, b < gp → (w.setCell ⟨gp, k, none⟩ (.int .i64 y)).heap[b]? = w.heap[b]? := fun b hb => Below.heap_setCell w _ _ b (by show b ≠ gp; omega)
  exact ⟨(World.cell?_of_block (a := ⟨w0.heap.size, 0, none⟩) (hc _ (by show w0.heap.size < gp; omega))).trans h.c0, (World.cell?_of_block (a := ⟨w0.heap.size, 1, none⟩) (hc _ (by show w0.heap.size < gp; omega))).trans h.c1, (World.cell?_of_block (a := ⟨w0.heap.size, 2, none⟩) (hc _ (by show w0.heap.size < gp; omega))).trans h.c2,
    h.rs.keep fun b hlt => hc b (by omega), h.rm.keep fun b hlt => hc b (by omega), h.rx.keep fun b hlt => hc b (by omega), h.zb.keep (hc _ h2) (by simpa using h3),
    h.pr.store h.pl (by omega) y, by rw [List.length_set]; exact h.pl, h.gb⟩
/-- a store into another block of the call's own -/
theorem RSt.other (h : RSt w0 w gp A1 A2 A3 c1 c2 sg mt xs L p) {g : Nat} (hg : w0.heap.size + 1 < g) (hne : g ≠ gp) (k : Nat) (v : Value) : RSt w0 (w.setCell ⟨g, k, none⟩ v) gp A1 A2 A3 c1 c2 sg mt xs L p := by
  have h2 := h.gb
  have h3 := h.zb.lt
  have hc : ∀ b, b ≠ g → (w.setCell ⟨g, k, none⟩ v).heap[b]? = w.heap[b]? := fun b hb => Below.heap_setCell w _ _ b hb
  exact ⟨(World.cell?_of_block (a := ⟨w0.heap.size, 0, none⟩) (hc _ (by show w0.heap.size ≠ g; omega))).trans h.c0, (World.cell?_of_block (a := ⟨w0.heap.size, 1, none⟩) (hc _ (by show w0.heap.size ≠ g; omega))).trans h.c1, (World.cell?_of_block (a := ⟨w0.heap.size, 2, none⟩) (hc _ (by show w0.heap.size ≠ g; omega))).trans h.c2,
    h.rs.keep fun b hlt => hc b (by omega), h.rm.keep fun b hlt => hc b (by omega), h.rx.keep fun b hlt => hc b (by omega), h.zb.keep (hc _ (by omega)) (by simpa using h3),
    h.pr.other (by omega) (by omega) v, h.pl, h.gb⟩
theorem RSt.start (hx : RI w0 (· < w0.heap.size) A1 sg) (hy : RI w0 (· < w0.heap.size) A2 mt) (hz : RI w0 (· < w0.heap.size) A3 xs) (hb : Below w0.heap.size w0 w) (hd : DBox w w0.heap.size A1 A2 c1 c2 sg mt L) (hzb : ZBox w (w0.heap.size + 1)) (hl : sg.length ≤ maxLen) :
    RSt w0 (w.alloc (.cells (Array.replicate sg.length (Value.int .i64 0)) 3)) w.heap.size A1 A2 A3 c1 c2 sg mt xs L (List.replicate sg.length 0) := by
  have hb' := (Below.refl w.heap.size w).alloc (Nat.le_refl _) (.cells (Array.replicate sg.length (Value.int .i64 0)) 3)
  have hd' := hd.below hb'
  have hw := hb.trans (hb'.mono hb.size)
  have hp := OI.new w w0.heap.size sg.length hb.size hl
  exact ⟨hd'.c0, hd'.c1, hd'.c2, hx.below hw, hy.below hw, hz.below hw, hzb.below hb', ⟨by simpa using hp, hw, by simp⟩, by simp, hzb.lt⟩
end

/-- the result in the making: its box b, its signs q in the block g1, its mates r in the block g2 -/
structure R2St (w0 w : World) (gp : Nat) (A1 A2 A3 : Option Addr) (c1 c2 : Nat) (sg mt xs : List Int) (L : Int) (p : List Int) (b g1 g2 : Nat) (q r : List Int) : Prop where
  st : RSt w0 w gp A1 A2 A3 c1 c2 sg mt xs L p
  k0 : w.cell? ⟨b, 0, none⟩ = some (.slice (some ⟨g1, 0, none⟩) sg.length sg.length)
  k1 : w.cell? ⟨b, 1, none⟩ = some (.slice (some ⟨g2, 0, none⟩) (4 * sg.length) (4 * sg.length))
  k2 : w.cell? ⟨b, 2, none⟩ = some (.int .i64 L)
  o1 : OI w w0.heap.size (.slice (some ⟨g1, 0, none⟩) sg.length sg.length) q
  o2 : OI w w0.heap.size (.slice (some ⟨g2, 0, none⟩) (4 * sg.length) (4 * sg.length)) r
  l1 : q.length = sg.length
  l2 : r.length = 4 * sg.length
  n12 : g1 ≠ g2
  n1p : g1 ≠ gp
  n2p : g2 ≠ gp
  nb1 : b ≠ g1
  nb2 : b ≠ g2
  h1 : w0.heap.size + 1 < g1
  h2 : w0.heap.size + 1 < g2
  lb : b < w.heap.size
theorem oi_heap {w : World} {g n B : Nat} (h : w.heap[g]? = some (.cells (Array.replicate n (Value.int .i64 0)) 3 (0, 0))) (hB : B ≤ g) (hn : n ≤ maxLen) : OI w B (.slice (some ⟨g, 0, none⟩) n n) (List.replicate n 0) :=
  ⟨by simp, .inr ⟨g, n, _, by simp, hB, h, by simp, hn, by simp, by simp⟩⟩
section
variable {w0 w w' : World} {gp : Nat} {A1 A2 A3 : Option Addr} {c1 c2 : Nat} {sg mt xs : List Int} {L : Int} {p : List Int} {b g1 g2 : Nat} {q r : List Int}
theorem R2St.new (h : RSt w0 w' gp A1 A2 A3 c1 c2 sg mt xs L p) (hb : w'.heap[b]? = some (.cells #[.slice (some ⟨g1, 0, none⟩) sg.length sg.length, .slice (some ⟨g2, 0, none⟩) (4 * sg.length) (4 * sg.length), .int .i64 L] 24 (0, 0)))
    (hg1 : w'.heap[g1]? = some (.cells (Array.replicate sg.length (Value.int .i64 0)) 3 (0, 0))) (hg2 : w'.heap[g2]? = some (.cells (Array.replicate (4 * sg.length) (Value.int .i64 0)) 3 (0, 0)))
    (hn : sg.length ≤ 1000) (e12 : g1 ≠ g2) (m : Nat) (hm : gp < m ∧ m ≤ b ∧ m ≤ g1 ∧ m ≤ g2) : R2St w0 w' gp A1 A2 A3 c1 c2 sg mt xs L p b g1 g2 (List.replicate sg.length 0) (List.replicate (4 * sg.length) 0) := by
  have h2 := h.gb
  refine ⟨h, ?_, ?_, ?_, oi_heap hg1 (by omega) (by unfold maxLen; omega), oi_heap hg2 (by omega) (by unfold maxLen; omega), by simp, by simp, e12, by omega, by omega, ?_, ?_, by omega, by omega, ?_⟩
  · rw [cell_of_row _ _ _ _ _ _ hb]; rfl
  · rw [cell_of_row _ _ _ _ _ _ hb]; rfl
  · rw [cell_of_row _ _ _ _ _ _ hb]; rfl
  · rintro rfl
    rw [hb] at hg1
    injection hg1 with e
    injection e with _ e
    exact absurd e (by decide)
  · rintro rfl
    rw [hb] at hg2
    injection hg2 with e
    injection e with _ e
    exact absurd e (by decide)
  · exact (Array.getElem?_eq_some_iff.1 hb).1
theorem R2St.drew (h : R2St w0 w gp A1 A2 A3 c1 c2 sg mt xs L p b g1 g2 q r) : R2St w0 w.drew gp A1 A2 A3 c1 c2 sg mt xs L p b g1 g2 q r :=
  ⟨h.st.drew, by simpa using h.k0, by simpa using h.k1, by simpa using h.k2, h.o1.drewN 1, h.o2.drewN 1, h.l1, h.l2, h.n12, h.n1p, h.n2p, h.nb1, h.nb2, h.h1, h.h2, by simpa using h.lb⟩
theorem R2St.store1 (h : R2St w0 w gp A1 A2 A3 c1 c2 sg mt xs L p b g1 g2 q r) (k : Nat) (y : Int) : R2St w0 (w.setCell ⟨g1, k, none⟩ (.int .i64 y)) gp A1 A2 A3 c1 c2 sg mt xs L p b g1 g2 (q.set k y) r := by
  have hc : ∀ x, x ≠ g1 → (w.setCell ⟨g1, k, none⟩ (.int .i64 y)).heap[x]? = w.heap[x]? := fun x hx => Below.heap_setCell w _ _ x hx
  have ho := h.o1
  rw [← h.l1] at ho
  have h2 := OR.stored (k := k) ho y
  rw [List.length_set, h.l1] at h2
  exact ⟨h.st.other h.h1 h.n1p k _, (World.cell?_of_block (a := ⟨b, 0, none⟩) (hc _ h.nb1)).trans h.k0, (World.cell?_of_block (a := ⟨b, 1, none⟩) (hc _ h.nb1)).trans h.k1, (World.cell?_of_block (a := ⟨b, 2, none⟩) (hc _ h.nb1)).trans h.k2,
    h2, h.o2.keep fun g hg => hc g (by simp [Value.ownBlock] at hg; intro e; exact h.n12 (by omega)), by rw [List.length_set]; exact h.l1, h.l2, h.n12, h.n1p, h.n2p, h.nb1, h.nb2, h.h1, h.h2, by simpa using h.lb⟩
theorem R2St.store2 (h : R2St w0 w gp A1 A2 A3 c1 c2 sg mt xs L p b g1 g2 q r) (k : Nat) (y : Int) : R2St w0 (w.setCell ⟨g2, k, none⟩ (.int .i64 y)) gp A1 A2 A3 c1 c2 sg mt xs L p b g1 g2 q (r.set k y) := by
  have hc : ∀ x, x ≠ g2 → (w.setCell ⟨g2, k, none⟩ (.int .i64 y)).heap[x]? = w.heap[x]? := fun x hx => Below.heap_setCell w _ _ x hx
  have ho := h.o2
  rw [← h.l2] at ho
  have h2 := OR.stored (k := k) ho y
  rw [List.length_set] at h2
  exact ⟨h.st.other h.h2 h.n2p k _, (World.cell?_of_block (a := ⟨b, 0, none⟩) (hc _ h.nb2)).trans h.k0, (World.cell?_of_block (a := ⟨b, 1, none⟩) (hc _ h.nb2)).trans h.k1, (World.cell?_of_block (a := ⟨b, 2, none⟩) (hc _ h.nb2)).trans h.k2,
    h.o1.keep fun g hg => hc g (by simp [Value.ownBlock] at hg; intro e; exact h.n12 (by omega)), by have := h2; rwa [h.l2] at this, h.l1, by rw [List.length_set]; exact h.l2, h.n12, h.n1p, h.n2p, h.nb1, h.nb2, h.h1, h.h2, by simpa using h.lb⟩
theorem R2St.at1 (h : R2St w0 w gp A1 A2 A3 c1 c2 sg mt xs L p b g1 g2 q r) {k : Nat} (hk : k < sg.length) : w.cell? ⟨g1, k, none⟩ = some (.int .i64 (gi q k)) ∧ w.frozen? ⟨g1, k, none⟩ = false := by
  have := OR.ints_at h.o1 (by rw [h.l1]; omega)
  exact ⟨this.2.2.2.2.1 k (by rw [h.l1]; exact hk), this.2.2.2.2.2 k⟩
theorem R2St.at2 (h : R2St w0 w gp A1 A2 A3 c1 c2 sg mt xs L p b g1 g2 q r) {k : Nat} (hk : k < 4 * sg.length) : w.cell? ⟨g2, k, none⟩ = some (.int .i64 (gi r k)) ∧ w.frozen? ⟨g2, k, none⟩ = false := by
  have := OR.ints_at h.o2 (by rw [h.l2]; omega)
  exact ⟨this.2.2.2.2.1 k (by rw [h.l2]; exact hk), this.2.2.2.2.2 k⟩
theorem R2St.fin (h : R2St w0 w gp A1 A2 A3 c1 c2 sg mt xs L p b g1 g2 q r) (x y z : Value) :
    Fresh (((w.setCell ⟨w0.heap.size + 1, 0, none⟩ x).setCell ⟨w0.heap.size + 1, 1, none⟩ y).setCell ⟨w0.heap.size + 1, 2, none⟩ z) w0.heap.size (.slice (some ⟨g1, 0, none⟩) sg.length sg.length) (.slice (some ⟨g2, 0, none⟩) (4 * sg.length) (4 * sg.length)) q r ∧
    Below w0.heap.size w0 (((w.setCell ⟨w0.heap.size + 1, 0, none⟩ x).setCell ⟨w0.heap.size + 1, 1, none⟩ y).setCell ⟨w0.heap.size + 1, 2, none⟩ z) := by
  have hblk : ∀ g, w0.heap.size + 1 < g → (((w.setCell ⟨w0.heap.size + 1, 0, none⟩ x).setCell ⟨w0.heap.size + 1, 1, none⟩ y).setCell ⟨w0.heap.size + 1, 2, none⟩ z).heap[g]? = w.heap[g]? := fun g hg => by
    rw [Below.heap_setCell _ _ _ g (by simp; omega), Below.heap_setCell _ _ _ g (by simp; omega), Below.heap_setCell _ _ _ g (by simp; omega)]
  have e1 := h.h1
  have e2 := h.h2
  refine ⟨⟨h.o1.keep fun g hg => hblk g (by simp [Value.ownBlock] at hg; omega), h.o2.keep fun g hg => hblk g (by simp [Value.ownBlock] at hg; omega), fun g hg1 hg2 => ?_⟩, ?_⟩
  · simp [Value.ownBlock] at hg1 hg2
    exact h.n12 (by omega)
  · exact ((h.st.pr.below.setCell (by simp) _).setCell (by simp) _).setCell (by simp) _
theorem three (wr : World) (a b c : Obj) : (((wr.alloc a).alloc b).alloc c).drew.heap[wr.heap.size]? = some a ∧ (((wr.alloc a).alloc b).alloc c).drew.heap[wr.heap.size + 1]? = some b ∧ (((wr.alloc a).alloc b).alloc c).drew.heap[wr.heap.size + 1 + 1]? = some c := by
  have e1 : (wr.alloc a).heap.size = wr.heap.size + 1 := by simp
  have e2 : ((wr.alloc a).alloc b).heap.size = wr.heap.size + 1 + 1 := by simp
  refine ⟨?_, ?_, ?_⟩
  · show (((wr.alloc a).alloc b).alloc c).heap[wr.heap.size]? = some a
    rw [Below.heap_alloc _ _ _ (by omega), Below.heap_alloc _ _ _ (by omega)]
    exact heap_alloc_new _ _
  · show (((wr.alloc a).alloc b).alloc c).heap[wr.heap.size + 1]? = some b
    rw [Below.heap_alloc _ _ _ (by omega), ← e1]
    exact heap_alloc_new _ _
  · show (((wr.alloc a).alloc b).alloc c).heap[wr.heap.size + 1 + 1]? = some c
    rw [← e2]
    exact heap_alloc_new _ _
end

theorem keepR {w0 w w' : World} {gp : Nat} {A1 A2 A3 : Option Addr} {c1 c2 : Nat} {sg mt xs : List Int} {L : Int} {p : List Int} (h : Hid (RSt w0 w gp A1 A2 A3 c1 c2 sg mt xs L p) ∧ w.cell? ⟨w0.heap.size, 2, none⟩ = some (.int .i64 L)) (hb : Below w.heap.size w w') :
    Hid (RSt w0 w' gp A1 A2 A3 c1 c2 sg mt xs L p) ∧ w'.cell? ⟨w0.heap.size, 2, none⟩ = some (.int .i64 L) := by
  have h' := h.1.out.below hb
  exact ⟨Lib.hid h', h'.c2⟩
def RenOk (sg mt xs : List Int) (L : Int) (w : World) (e : Ending) (w' : World) : Prop := ∃ v1 v2, e = .returned (.tuple #[.agg #[v1, v2, .int .i64 L], .int .i64 0]) ∧ Fresh w' w.heap.size v1 v2 (renS sg xs) (renM mt xs sg.length) ∧ Below w.heap.size w w'
theorem make4 (n : Nat) (hn : n ≤ 1000) (w : World) :
    (Instr.makeSlice 22 (.int .i64 (4 * (n : Int))) (.int .i64 (4 * (n : Int)))).run Try.prog w = .ok (.slice (some ⟨w.heap.size, 0, none⟩) (4 * n) (4 * n)) (w.alloc (.cells (List.replicate (4 * n) (Value.int .i64 0)).toArray 3)) := by
  have := make_ints 22 Try.underlying22 (4 * n) (by omega) w
  rwa [show ((4 * n : Nat) : Int) = 4 * (n : Int) by omega] at this

section
variable (A1 A2 A3 : Option Addr) (c1 c2 c3 : Nat) (sg mt xs : List Int) (L : Int) (w : World) (S : Nat → Prop) (hx : RI w S A1 sg) (hy : RI w S A2 mt) (hz : RI w S A3 xs) (hS : ∀ b, S b → b < w.heap.size)
include hx hy hS

set_option maxHeartbeats 1000000 in
theorem ren_bad (m : Nat) (hm1 : sg.length ≤ maxLen) (hm2 : mt.length ≤ maxLen) (hno : ¬ IsD sg mt L) :
    Calls Try.prog 36 #[.agg #[.slice A1 sg.length c1, .slice A2 mt.length c2, .int .i64 L], .slice A3 m c3] w (RenNo 1 w) := by
  have HD := Lib.hid ((DBox.start (c1 := c1) (c2 := c2) (L := L) S hx hy hS).below ((Below.refl _ _).alloc (Nat.le_refl _) (.cells #[.slice none 0 0, .slice none 0 0, .int .i64 0] 24)))
  have hz1 := (ZBox.new (heap_alloc_new (w.alloc (.cells #[.slice A1 sg.length c1, .slice A2 mt.length c2, .int .i64 L] 24)) (.cells #[.slice none 0 0, .slice none 0 0, .int .i64 0] 24)) (by simp))
  have HB := Lib.hid (((Below.refl w.heap.size w).alloc (Nat.le_refl _) (.cells #[.slice A1 sg.length c1, .slice A2 mt.length c2, .int .i64 L] 24)).alloc (by simp) (.cells #[.slice none 0 0, .slice none 0 0, .int .i64 0] 24))
  have hs0 : (w.alloc (.cells #[.slice A1 sg.length c1, .slice A2 mt.length c2, .int .i64 L] 24)).heap.size = w.heap.size + 1 := by simp
  rw [hs0] at hz1
  have HZ := Lib.hid hz1
  have H := Lib.hid (decide_eq_false hno)
  clear hx hy hS hno hz1 hs0
  go_enter Try.func36, Try.ntmps36
  go_wp2_with fail
  refine (dvalid_is _ false HD.out.rs HD.out.rm (fun _ h => h) hm1 hm2 H.out).mono ?_
  rintro e w1 ⟨rfl, hb1⟩
  have HZ1 := Lib.hid (HZ.out.below hb1)
  have HB1 := Lib.hid (HB.out.trans (hb1.mono HB.out.size))
  have y0 := HZ1.out.z0
  have y1 := HZ1.out.z1
  have y2 := HZ1.out.z2
  have g0 := HZ1.out.f0
  have g1 := HZ1.out.f1
  have g2 := HZ1.out.f2
  clear hb1 HZ HB HD
  go_wp2_with fail
  refine bodyPost_ret (v := .tuple #[.agg #[.slice none 0 0, .slice none 0 0, .int .i64 0], .int .i64 1]) (by simp [results, Try.results36, go_sem, y0, y1, y2]) rfl ?_
  exact ⟨rfl, ((HB1.out.setCell (by simp) _).setCell (by simp) _).setCell (by simp) _⟩

set_option maxRecDepth 100000 in
set_option maxHeartbeats 4000000 in
theorem ren_len (m : Nat) (hd : IsD sg mt L) (hm : m ≠ sg.length) :
    Calls Try.prog 36 #[.agg #[.slice A1 sg.length c1, .slice A2 mt.length c2, .int .i64 L], .slice A3 m c3] w (RenNo 2 w) := by
  have HD := Lib.hid ((DBox.start (c1 := c1) (c2 := c2) (L := L) S hx hy hS).below ((Below.refl _ _).alloc (Nat.le_refl _) (.cells #[.slice none 0 0, .slice none 0 0, .int .i64 0] 24)))
  have hz1 := (ZBox.new (heap_alloc_new (w.alloc (.cells #[.slice A1 sg.length c1, .slice A2 mt.length c2, .int .i64 L] 24)) (.cells #[.slice none 0 0, .slice none 0 0, .int .i64 0] 24)) (by simp))
  have HB := Lib.hid (((Below.refl w.heap.size w).alloc (Nat.le_refl _) (.cells #[.slice A1 sg.length c1, .slice A2 mt.length c2, .int .i64 L] 24)).alloc (by simp) (.cells #[.slice none 0 0, .slice none 0 0, .int .i64 0] 24))
  have hs0 : (w.alloc (.cells #[.slice A1 sg.length c1, .slice A2 mt.length c2, .int .i64 L] 24)).heap.size = w.heap.size + 1 := by simp
  rw [hs0] at hz1
  have HZ := Lib.hid hz1
  have H := Lib.hid (decide_eq_true hd)
  have hm1 : sg.length ≤ maxLen := by have := hd.1; unfold maxLen; omega
  have hm2 : mt.length ≤ maxLen := by have := hd.1; have := hd.2.1; unfold maxLen; omega
  have q0 : ((m : Int) != (sg.length : Int)) = true := by rw [bne_iff_ne]; omega
  clear hx hy hS hd hz1 hs0 hm
  go_enter Try.func36, Try.ntmps36
  go_wp2_with fail
  refine (dvalid_is _ true HD.out.rs HD.out.rm (fun _ h => h) hm1 hm2 H.out).mono ?_
  rintro e w1 ⟨rfl, hb1⟩
  have HZ1 := Lib.hid (HZ.out.below hb1)
  have HB1 := Lib.hid (HB.out.trans (hb1.mono HB.out.size))
  have HD1 := Lib.hid (HD.out.below hb1)
  have k0 := HD1.out.c0
  have y0 := HZ1.out.z0
  have y1 := HZ1.out.z1
  have y2 := HZ1.out.z2
  have g0 := HZ1.out.f0
  have g1 := HZ1.out.f1
  have g2 := HZ1.out.f2
  clear hb1 HZ HB HD
  go_wp2_with fail
  refine bodyPost_ret (v := .tuple #[.agg #[.slice none 0 0, .slice none 0 0, .int .i64 0], .int .i64 2]) (by simp [results, Try.results36, go_sem, y0, y1, y2]) rfl ?_
  exact ⟨rfl, ((HB1.out.setCell (by simp) _).setCell (by simp) _).setCell (by simp) _⟩

include hz in
set_option maxRecDepth 100000 in
set_option maxHeartbeats 4000000 in
theorem ren_range (hd : IsD sg mt L) (hm : xs.length = sg.length) (hno : ¬ PermI xs sg.length) :
    Calls Try.prog 36 #[.agg #[.slice A1 sg.length c1, .slice A2 mt.length c2, .int .i64 L], .slice A3 sg.length c3] w (RenNo 2 w) := by
  have HD := Lib.hid ((DBox.start (c1 := c1) (c2 := c2) (L := L) S hx hy hS).below ((Below.refl _ _).alloc (Nat.le_refl _) (.cells #[.slice none 0 0, .slice none 0 0, .int .i64 0] 24)))
  have hz1 := (ZBox.new (heap_alloc_new (w.alloc (.cells #[.slice A1 sg.length c1, .slice A2 mt.length c2, .int .i64 L] 24)) (.cells #[.slice none 0 0, .slice none 0 0, .int .i64 0] 24)) (by simp))
  have HB := Lib.hid (((Below.refl w.heap.size w).alloc (Nat.le_refl _) (.cells #[.slice A1 sg.length c1, .slice A2 mt.length c2, .int .i64 L] 24)).alloc (by simp) (.cells #[.slice none 0 0, .slice none 0 0, .int .i64 0] 24))
  have hs0 : (w.alloc (.cells #[.slice A1 sg.length c1, .slice A2 mt.length c2, .int .i64 L] 24)).heap.size = w.heap.size + 1 := by simp
  rw [hs0] at hz1
  have HZ := Lib.hid hz1
  have HX := Lib.hid (hx.imp hS)
  have HY := Lib.hid (hy.imp hS)
  have HXS := Lib.hid (hz.imp hS)
  have H := Lib.hid (decide_eq_true hd)
  have hn := hd.1
  have hm1 : sg.length ≤ maxLen := by unfold maxLen; omega
  have hm2 : mt.length ≤ maxLen := by have := hd.2.1; unfold maxLen; omega
  have HM := Lib.hid hm
  have HNO := Lib.hid hno
  have hmk := make_ints 22 Try.underlying22 sg.length (by omega)
  clear hx hy hz hS hd hz1 hs0 hm hno
  go_enter Try.func36, Try.ntmps36
  go_wp2_with fail
  refine (dvalid_is _ true HD.out.rs HD.out.rm (fun _ h => h) hm1 hm2 H.out).mono ?_
  rintro e w1 ⟨rfl, hb1⟩
  have HZ1 := Lib.hid (HZ.out.below hb1)
  have HB1 := Lib.hid (HB.out.trans (hb1.mono HB.out.size))
  have HD1 := Lib.hid (HD.out.below hb1)
  have T0 := Lib.hid (RSt.start HX.out HY.out HXS.out HB1.out HD1.out HZ1.out hm1)
  have k0 := HD1.out.c0
  clear hb1 HZ HB HD
  go_wp2_with fail
  clear hmk k0 HB1 HD1 HZ1
  generalize hW : w1.alloc (.cells (Array.replicate sg.length (Value.int .i64 0)) 3) = w2 at *
  clear hW
  obtain ⟨gp, hgp⟩ : ∃ g, w1.heap.size = g := ⟨_, rfl⟩
  rw [hgp] at T0 ⊢
  clear hgp
  go_wp2_with fail
  go_loopw [32] (fun i wr => ∃ (k : Nat) (p : List Int), k ≤ sg.length ∧ i = .int .i64 k ∧ Hid (RSt w wr gp A1 A2 A3 c1 c2 sg mt xs L p) ∧ Hid (∀ j, j < k → gi p j = -1)) (fun i _ => sg.length - (intOf i).toNat)
  case atStart => exact ⟨0, _, Nat.zero_le _, rfl, T0, Lib.hid fun j h => by omega⟩
  case round =>
    clear T0
    obtain ⟨k, p, hk, rfl, HT, HV⟩ := hrel
    by_cases hlt : k < sg.length
    · obtain ⟨k4, k5⟩ := HT.out.pr.at_ HT.out.pl hlt
      have hsg := HT.out.pr.size
      have HT' := Lib.hid (HT.out.store k (-1))
      have HV' : Hid (∀ j, j < k + 1 → gi (p.set k (-1)) j = -1) := by
        refine Lib.hid fun j hj => ?_
        rw [gi_set (by rw [HT.out.pl]; exact hlt)]
        split
        · rfl
        · exact HV.out j (by omega)
      clear HT HV
      go_wp2_with fail
      go_roundw
      case rel => exact ⟨k + 1, _, by omega, by go_num, HT', HV'⟩
      case measure => simp [intOf]; omega
    · have F0 : Hid (NumI xs sg.length 0 p) := Lib.hid (num_start fun j hj => HV.out j (by omega))
      clear HV
      go_wp2_with fail
      go_loopw [41] (fun i wr => ∃ (k : Nat) (p : List Int), k ≤ sg.length ∧ i = .int .i64 k ∧ Hid (RSt w wr gp A1 A2 A3 c1 c2 sg mt xs L p) ∧ Hid (InTo xs sg.length k) ∧ Hid (NumI xs sg.length k p)) (fun i _ => sg.length - (intOf i).toNat)
      case atStart => exact ⟨0, _, Nat.zero_le _, rfl, HT, Lib.hid (InTo.zero _ _), F0⟩
      case round =>
        clear HT F0
        obtain ⟨k, p, hk, rfl, HT, HI, HV⟩ := hrel
        have hlt : k < sg.length := by
          rcases Nat.lt_or_eq_of_le hk with h | h
          · exact h
          · exact absurd ⟨HM.out, by rw [← h]; exact h ▸ HI.out⟩ HNO.out
        obtain ⟨bx, ox, rfl, -, hcx⟩ := HT.out.rx.at_ (k := k) (by rw [HM.out]; exact hlt)
        have k3 := hcx k (by rw [HM.out]; exact hlt)
        clear hcx
        obtain ⟨cc, hcc⟩ : ∃ cc, gi xs k = cc := ⟨_, rfl⟩
        rw [hcc] at k3
        have y0 := HT.out.zb.z0
        have y1 := HT.out.zb.z1
        have y2 := HT.out.zb.z2
        have g0 := HT.out.zb.f0
        have g1 := HT.out.zb.f1
        have g2 := HT.out.zb.f2
        have HB := Lib.hid HT.out.pr.below
        have hlz := HT.out.zb.lt
        by_cases h1 : cc < 0
        · have q1 : decide (cc < 0) = true := decide_eq_true h1
          clear hcc HT HI HV
          go_wp2_with fail
          refine bodyPost_ret (v := .tuple #[.agg #[.slice none 0 0, .slice none 0 0, .int .i64 0], .int .i64 2]) (by simp [results, Try.results36, go_sem, y0, y1, y2]) rfl ?_
          exact ⟨rfl, ((HB.out.setCell (by simp) _).setCell (by simp) _).setCell (by simp) _⟩
        have q1 : decide (cc < 0) = false := decide_eq_false h1
        by_cases h2 : (sg.length : Int) ≤ cc
        · have q2 : decide ((sg.length : Int) ≤ cc) = true := decide_eq_true h2
          clear hcc HT HI HV
          go_wp2_with fail
          refine bodyPost_ret (v := .tuple #[.agg #[.slice none 0 0, .slice none 0 0, .int .i64 0], .int .i64 2]) (by simp [results, Try.results36, go_sem, y0, y1, y2]) rfl ?_
          exact ⟨rfl, ((HB.out.setCell (by simp) _).setCell (by simp) _).setCell (by simp) _⟩
        have q2 : decide ((sg.length : Int) ≤ cc) = false := decide_eq_false h2
        have hcn : gn xs k < sg.length ∧ cc = (gn xs k : Int) := by unfold gn; omega
        obtain ⟨hcl, hce⟩ := hcn
        obtain ⟨k4, k5⟩ := HT.out.pr.at_ HT.out.pl hcl
        have htest := num_test HV.out hcl
        by_cases h3 : 0 ≤ gi p (gn xs k)
        · obtain ⟨c, hc⟩ : ∃ c, gn xs k = c := ⟨_, rfl⟩
          rw [hc] at hcl hce k4 k5 h3
          obtain ⟨v, hv⟩ : ∃ v, gi p c = v := ⟨_, rfl⟩
          rw [hv] at k4 h3
          have q3 : decide (0 ≤ v) = true := decide_eq_true h3
          subst hce
          clear hcc HT HI HV htest hc hv
          go_wp2_with fail
          refine bodyPost_ret (v := .tuple #[.agg #[.slice none 0 0, .slice none 0 0, .int .i64 0], .int .i64 2]) (by simp [results, Try.results36, go_sem, y0, y1, y2]) rfl ?_
          exact ⟨rfl, ((HB.out.setCell (by simp) _).setCell (by simp) _).setCell (by simp) _⟩
        · have hin : InTo xs sg.length (k + 1) := HI.out.next (by rw [hcc]; omega) (by rw [hcc]; omega) fun i hi e => h3 (htest.2 ⟨i, hi, e⟩)
          have HI' := Lib.hid hin
          have HV' := Lib.hid (num_step hin HT.out.pl HV.out)
          have HT' := Lib.hid (HT.out.store (gn xs k) (k : Int))
          obtain ⟨c, hc⟩ : ∃ c, gn xs k = c := ⟨_, rfl⟩
          rw [hc] at hcl hce k4 k5 h3 HT' HV'
          obtain ⟨v, hv⟩ : ∃ v, gi p c = v := ⟨_, rfl⟩
          rw [hv] at k4 h3
          have q3 : decide (0 ≤ v) = false := decide_eq_false h3
          subst hce
          have hsg := HT.out.pr.size
          clear hcc HT HI HV htest hc hv hin y0 y1 y2 g0 g1 g2
          go_wp2_with fail
          go_roundw
          case rel => exact ⟨k + 1, _, by omega, by go_num, HT', HI', HV'⟩
          case measure => simp [intOf]; omega

include hz in
set_option maxRecDepth 100000 in
set_option maxHeartbeats 16000000 in
theorem ren_ok (hd : IsD sg mt L) (hperm : PermI xs sg.length) :
    Calls Try.prog 36 #[.agg #[.slice A1 sg.length c1, .slice A2 mt.length c2, .int .i64 L], .slice A3 sg.length c3] w (RenOk sg mt xs L w) := by
  have HD := Lib.hid ((DBox.start (c1 := c1) (c2 := c2) (L := L) S hx hy hS).below ((Below.refl _ _).alloc (Nat.le_refl _) (.cells #[.slice none 0 0, .slice none 0 0, .int .i64 0] 24)))
  have hz1 := (ZBox.new (heap_alloc_new (w.alloc (.cells #[.slice A1 sg.length c1, .slice A2 mt.length c2, .int .i64 L] 24)) (.cells #[.slice none 0 0, .slice none 0 0, .int .i64 0] 24)) (by simp))
  have HB := Lib.hid (((Below.refl w.heap.size w).alloc (Nat.le_refl _) (.cells #[.slice A1 sg.length c1, .slice A2 mt.length c2, .int .i64 L] 24)).alloc (by simp) (.cells #[.slice none 0 0, .slice none 0 0, .int .i64 0] 24))
  have hs0 : (w.alloc (.cells #[.slice A1 sg.length c1, .slice A2 mt.length c2, .int .i64 L] 24)).heap.size = w.heap.size + 1 := by simp
  rw [hs0] at hz1
  have HZ := Lib.hid hz1
  have HX := Lib.hid (hx.imp hS)
  have HY := Lib.hid (hy.imp hS)
  have HXS := Lib.hid (hz.imp hS)
  have H := Lib.hid (decide_eq_true hd)
  have hn := hd.1
  have hm1 : sg.length ≤ maxLen := by unfold maxLen; omega
  have hm2 : mt.length ≤ maxLen := by have := hd.2.1; unfold maxLen; omega
  have HM := Lib.hid hperm.1
  have HDD := Lib.hid hd
  have HP := Lib.hid hperm
  have hmk2 := make4 sg.length (by omega)
  have w4 : IntKind.i64.wrap (4 * (sg.length : Int)) = 4 * (sg.length : Int) := IntWalk.i64_in _ (by omega)
  have hmk := make_ints 22 Try.underlying22 sg.length (by omega)
  clear hx hy hz hS hd hz1 hs0 hperm
  go_enter Try.func36, Try.ntmps36
  go_wp2_with fail
  refine (dvalid_is _ true HD.out.rs HD.out.rm (fun _ h => h) hm1 hm2 H.out).mono ?_
  rintro e w1 ⟨rfl, hb1⟩
  have HZ1 := Lib.hid (HZ.out.below hb1)
  have HB1 := Lib.hid (HB.out.trans (hb1.mono HB.out.size))
  have HD1 := Lib.hid (HD.out.below hb1)
  have T0 := Lib.hid (RSt.start HX.out HY.out HXS.out HB1.out HD1.out HZ1.out hm1)
  have k0 := HD1.out.c0
  clear hb1 HZ HB HD
  go_wp2_with fail
  clear k0 HB1 HD1 HZ1
  generalize hW : w1.alloc (.cells (Array.replicate sg.length (Value.int .i64 0)) 3) = w2 at *
  clear hW
  obtain ⟨gp, hgp⟩ : ∃ g, w1.heap.size = g := ⟨_, rfl⟩
  rw [hgp] at T0 ⊢
  clear hgp
  go_wp2_with fail
  go_loopw [32] (fun i wr => ∃ (k : Nat) (p : List Int), k ≤ sg.length ∧ i = .int .i64 k ∧ Hid (RSt w wr gp A1 A2 A3 c1 c2 sg mt xs L p) ∧ Hid (∀ j, j < k → gi p j = -1)) (fun i _ => sg.length - (intOf i).toNat)
  case atStart => exact ⟨0, _, Nat.zero_le _, rfl, T0, Lib.hid fun j h => by omega⟩
  case round =>
    clear T0
    obtain ⟨k, p, hk, rfl, HT, HV⟩ := hrel
    by_cases hlt : k < sg.length
    · obtain ⟨k4, k5⟩ := HT.out.pr.at_ HT.out.pl hlt
      have hsg := HT.out.pr.size
      have HT' := Lib.hid (HT.out.store k (-1))
      have HV' : Hid (∀ j, j < k + 1 → gi (p.set k (-1)) j = -1) := by
        refine Lib.hid fun j hj => ?_
        rw [gi_set (by rw [HT.out.pl]; exact hlt)]
        split
        · rfl
        · exact HV.out j (by omega)
      clear HT HV
      go_wp2_with fail
      go_roundw
      case rel => exact ⟨k + 1, _, by omega, by go_num, HT', HV'⟩
      case measure => simp [intOf]; omega
    · have F0 : Hid (NumI xs sg.length 0 p) := Lib.hid (num_start fun j hj => HV.out j (by omega))
      clear HV
      go_wp2_with fail
      go_loopw [41] (fun i wr => ∃ (k : Nat) (p : List Int), k ≤ sg.length ∧ i = .int .i64 k ∧ Hid (RSt w wr gp A1 A2 A3 c1 c2 sg mt xs L p) ∧ Hid (InTo xs sg.length k) ∧ Hid (NumI xs sg.length k p)) (fun i _ => sg.length - (intOf i).toNat)
      case atStart => exact ⟨0, _, Nat.zero_le _, rfl, HT, Lib.hid (InTo.zero _ _), F0⟩
      case round =>
        clear HT F0
        obtain ⟨k, p, hk, rfl, HT, HI, HV⟩ := hrel
        by_cases hlt : k < sg.length
        · obtain ⟨bx, ox, rfl, -, hcx⟩ := HT.out.rx.at_ (k := k) (by rw [HM.out]; exact hlt)
          have k3 := hcx k (by rw [HM.out]; exact hlt)
          clear hcx
          obtain ⟨hce, hcl⟩ := HP.out.2.gn hlt
          have HV' := Lib.hid (num_step (HP.out.2.less hlt) HT.out.pl HV.out)
          have HI' := Lib.hid (HP.out.2.less (show k + 1 ≤ sg.length from hlt))
          have HT' := Lib.hid (HT.out.store (gn xs k) (k : Int))
          obtain ⟨k4, k5⟩ := HT.out.pr.at_ HT.out.pl hcl
          have h3 : ¬ 0 ≤ gi p (gn xs k) := fun h => by
            obtain ⟨i, hi, e⟩ := (num_test HV.out hcl).1 h
            have := HP.out.2.inj (show i < sg.length by omega) hlt e
            omega
          rw [hce] at k3
          obtain ⟨c, hc⟩ : ∃ c, gn xs k = c := ⟨_, rfl⟩
          rw [hc] at hcl k3 k4 k5 h3 HT' HV'
          obtain ⟨v, hv⟩ : ∃ v, gi p c = v := ⟨_, rfl⟩
          rw [hv] at k4 h3
          have q1 : decide ((c : Int) < 0) = false := decide_eq_false (by omega)
          have q2 : decide ((sg.length : Int) ≤ (c : Int)) = false := decide_eq_false (by omega)
          have q3 : decide (0 ≤ v) = false := decide_eq_false h3
          have hsg := HT.out.pr.size
          clear hce HT HI HV hc hv
          go_wp2_with fail
          go_roundw
          case rel => exact ⟨k + 1, _, by omega, by go_num, HT', HI', HV'⟩
          case measure => simp [intOf]; omega
        · obtain rfl : k = sg.length := by omega
          have HN : Hid (∀ c, c < sg.length → gi p c = (ivX xs sg.length c : Int)) := Lib.hid fun c hc => num_end HP.out HV.out hc
          have k2 := HT.out.c2
          clear HI HV
          go_wp2_with fail
          have hlz := HT.out.zb.lt
          have hlw : w.heap.size < wr.heap.size := by omega
          go_cut [11] (fun v wx => ∃ b g1 g2 : Nat, v = .pointer (some ⟨b, 0, none⟩) ∧ Hid (R2St w wx gp A1 A2 A3 c1 c2 sg mt xs L p b g1 g2 (List.replicate sg.length 0) (List.replicate (4 * sg.length) 0)))
          case first =>
            go_region_held3 (fun w' => Hid (RSt w w' gp A1 A2 A3 c1 c2 sg mt xs L p) ∧ w'.cell? ⟨w.heap.size, 2, none⟩ = some (.int .i64 L)) ((refine keepR ⟨HT, k2⟩ ?_; (repeat (first | exact Below.refl _ _ | refine Below.drew ?_ | refine Below.alloc ?_ (by simp <;> omega) _)))) (fail)
            all_goals
              go_wp2_with fail
              go_meet
              case rel =>
                have hheld := And.left (by assumption)
                have hps := HT.out.pr.size
                first
                  | exact ⟨_, _, _, rfl, Lib.hid (R2St.new (Hid.out hheld) (three _ _ _ _).1 (three _ _ _ _).2.1 (three _ _ _ _).2.2 (by omega) (by omega) wr.heap.size ⟨hps, by omega, by omega, by omega⟩)⟩
                  | exact ⟨_, _, _, rfl, Lib.hid (R2St.new (Hid.out hheld) (three _ _ _ _).1 (three _ _ _ _).2.2 (three _ _ _ _).2.1 (by omega) (by omega) wr.heap.size ⟨hps, by omega, by omega, by omega⟩)⟩
                  | exact ⟨_, _, _, rfl, Lib.hid (R2St.new (Hid.out hheld) (three _ _ _ _).2.1 (three _ _ _ _).1 (three _ _ _ _).2.2 (by omega) (by omega) wr.heap.size ⟨hps, by omega, by omega, by omega⟩)⟩
                  | exact ⟨_, _, _, rfl, Lib.hid (R2St.new (Hid.out hheld) (three _ _ _ _).2.1 (three _ _ _ _).2.2 (three _ _ _ _).1 (by omega) (by omega) wr.heap.size ⟨hps, by omega, by omega, by omega⟩)⟩
                  | exact ⟨_, _, _, rfl, Lib.hid (R2St.new (Hid.out hheld) (three _ _ _ _).2.2 (three _ _ _ _).1 (three _ _ _ _).2.1 (by omega) (by omega) wr.heap.size ⟨hps, by omega, by omega, by omega⟩)⟩
                  | exact ⟨_, _, _, rfl, Lib.hid (R2St.new (Hid.out hheld) (three _ _ _ _).2.2 (three _ _ _ _).2.1 (three _ _ _ _).1 (by omega) (by omega) wr.heap.size ⟨hps, by omega, by omega, by omega⟩)⟩
          case rest =>
            obtain ⟨b, g1, g2, rfl, HT2⟩ := hcut
            clear HT k2 hmk hmk2 hlz hlw
            go_wp2_with fail
            go_loopw [76] (fun i wr => ∃ (k : Nat) (q r : List Int), k ≤ sg.length ∧ i = .int .i64 k ∧ Hid (R2St w wr gp A1 A2 A3 c1 c2 sg mt xs L p b g1 g2 q r) ∧ Hid (RenS sg xs k q) ∧ Hid (RenM mt xs sg.length (4 * k) r)) (fun i _ => sg.length - (intOf i).toNat)
            case atStart => exact ⟨0, _, _, Nat.zero_le _, rfl, HT2, Lib.hid ⟨by simp, fun i h => by omega⟩, Lib.hid ⟨by simp, fun i h => by omega⟩⟩
            case round =>
              clear HT2
              obtain ⟨i, q, r, hi, rfl, HT, HQ, HR⟩ := hrel
              by_cases hlt3 : i < sg.length
              · obtain ⟨bx, ox, hax, -, hcx⟩ := HT.out.st.rx.at_ (k := i) (by rw [HM.out]; exact hlt3)
                have k3 := hcx i (by rw [HM.out]; exact hlt3)
                obtain ⟨hce, hcl⟩ := HP.out.2.gn hlt3
                rw [hce] at k3
                obtain ⟨bs, os, has, -, hcs⟩ := HT.out.st.rs.at_ hcl
                have k4 := hcs _ hcl
                obtain ⟨k5, k6⟩ := HT.out.at1 hlt3
                have k7 := HT.out.k0
                have k8 := HT.out.st.c0
                have HT' := Lib.hid (HT.out.store1 i (gi sg (gn xs i))).drew
                have HQ' := Lib.hid (renS_step hlt3 HQ.out)
                obtain ⟨c, hc⟩ : ∃ c, gn xs i = c := ⟨_, rfl⟩
                have HC := Lib.hid hc
                rw [hc] at k3 k4 hcl HT' HQ'
                obtain ⟨v, hv⟩ : ∃ v, gi sg c = v := ⟨_, rfl⟩
                rw [hv] at k4 HT' HQ'
                have z1 : (0 : Int) ≤ (c : Int) ∧ (c : Int) < (sg.length : Int) := by omega
                have z2 : (0 : Int) ≤ (i : Int) ∧ (i : Int) < (sg.length : Int) := by omega
                clear hcx hcs hc hv hce HT HQ
                subst hax has
                go_wp2_with fail
                go_still_tail 9, (by kernel_rfl)
                clear k3 k4 k7 k8
                go_wp2_with fail
                clear k5 k6
                go_loopw [90] (fun j wr => ∃ (s : Nat) (r : List Int), s ≤ 4 ∧ j = .int .i64 s ∧ Hid (R2St w wr gp (some ⟨bs, os, none⟩) A2 (some ⟨bx, ox, none⟩) c1 c2 sg mt xs L p b g1 g2 (q.set i v) r) ∧ Hid (RenM mt xs sg.length (4 * i + s) r)) (fun j _ => 4 - (intOf j).toNat)
                case atStart => exact ⟨0, r, by omega, rfl, HT', HR⟩
                case round =>
                  clear HT' HR
                  obtain ⟨s, r, hs, rfl, HT, HR⟩ := hrel
                  by_cases hlt4 : s < 4
                  · have hn4 : 4 * i + s < 4 * sg.length := by omega
                    have hml : mt.length = 4 * sg.length := HDD.out.2.1
                    have hcs4 : 4 * c + s < mt.length := by omega
                    obtain ⟨gn1, gn2, -, -⟩ := HDD.out.2.2.2.2.2.1.gn hcs4
                    have hrho : rho xs (4 * i + s) = 4 * c + s := by
                      unfold rho
                      rw [show (4 * i + s) / 4 = i by omega, show (4 * i + s) % 4 = s by omega, HC.out]
                    obtain ⟨bm, om, ham, -, hcm⟩ := HT.out.st.rm.at_ hcs4
                    have k3 := hcm _ hcs4
                    rw [gn1] at k3
                    have HR' := Lib.hid (renM_step hn4 HR.out)
                    rw [hrho] at HR'
                    obtain ⟨m, hm⟩ : ∃ m, gn mt (4 * c + s) = m := ⟨_, rfl⟩
                    rw [hm] at k3 gn2 HR'
                    obtain ⟨mq, hmq⟩ : ∃ mq, m / 4 = mq := ⟨_, rfl⟩
                    obtain ⟨mr, hmr⟩ : ∃ mr, m % 4 = mr := ⟨_, rfl⟩
                    have hmq1 : mq < sg.length := by omega
                    have hmr1 : mr < 4 := by omega
                    obtain ⟨j, hj⟩ : ∃ j, ivX xs sg.length mq = j := ⟨_, rfl⟩
                    have hj1 : j < sg.length := by rw [← hj]; exact (iv_spec HP.out hmq1).1
                    have k4 := (HT.out.st.pr.at_ HT.out.st.pl hmq1).1
                    rw [HN.out mq hmq1, hj] at k4
                    have hrhi : (rhi xs sg.length m : Int) = 4 * (j : Int) + (mr : Int) := by
                      unfold rhi
                      rw [hmq, hmr, hj]
                      omega
                    rw [hrhi] at HR'
                    have HT' := Lib.hid (HT.out.store2 (4 * i + s) (4 * (j : Int) + (mr : Int))).drew
                    obtain ⟨k5, k6⟩ := HT.out.at2 hn4
                    have k7 := HT.out.k1
                    have k8 := HT.out.st.c1
                    have q1 : ((m : Nat) : Int).tdiv 4 = (mq : Int) := by rw [← hmq]; exact Int.ofNat_tdiv m 4
                    have q2 : ((m : Nat) : Int).tmod 4 = (mr : Int) := by rw [← hmr]; exact Int.ofNat_tmod m 4
                    have q1e : (m : Int) / 4 = (mq : Int) := by omega
                    have q2e : (m : Int) % 4 = (mr : Int) := by omega
                    have v1 : IntKind.i64.wrap (4 * (c : Int)) = 4 * (c : Int) := IntWalk.i64_in _ (by omega)
                    have v2 : IntKind.i64.wrap (4 * (c : Int) + (s : Int)) = 4 * (c : Int) + (s : Int) := IntWalk.i64_in _ (by omega)
                    have v3 : IntKind.i64.wrap (4 * (i : Int)) = 4 * (i : Int) := IntWalk.i64_in _ (by omega)
                    have v4 : IntKind.i64.wrap (4 * (i : Int) + (s : Int)) = 4 * (i : Int) + (s : Int) := IntWalk.i64_in _ (by omega)
                    have v5 : IntKind.i64.wrap (4 * (j : Int)) = 4 * (j : Int) := IntWalk.i64_in _ (by omega)
                    have v6 : IntKind.i64.wrap (4 * (j : Int) + (mr : Int)) = 4 * (j : Int) + (mr : Int) := IntWalk.i64_in _ (by omega)
                    have v7 : IntKind.i64.wrap (mq : Int) = (mq : Int) := IntWalk.i64_in _ (by omega)
                    have v8 : IntKind.i64.wrap (mr : Int) = (mr : Int) := IntWalk.i64_in _ (by omega)
                    have z3 : (0 : Int) ≤ 4 * (c : Int) + (s : Int) ∧ 4 * (c : Int) + (s : Int) < (mt.length : Int) := by omega
                    have z4 : (0 : Int) ≤ 4 * (i : Int) + (s : Int) ∧ 4 * (i : Int) + (s : Int) < 4 * (sg.length : Int) := by omega
                    have z5 : (0 : Int) ≤ (mq : Int) ∧ (mq : Int) < (sg.length : Int) := by omega
                    have t3 : (4 * (c : Int) + (s : Int)).toNat = 4 * c + s := by omega
                    have t4 : (4 * (i : Int) + (s : Int)).toNat = 4 * i + s := by omega
                    clear hcm hm hmq hmr hj hrhi hrho gn1 HT HR hml
                    subst ham
                    go_wp2_with fail
                    go_still_tail 16, (by kernel_rfl)
                    clear k3 k4 k7 k8 q1 q2 q1e q2e v1 v2 v3 v4 v5 v6 v7 v8
                    go_wp2_with fail
                    go_roundw
                    case rel => exact ⟨s + 1, _, by omega, by go_num, HT', HR'⟩
                    case measure => simp [intOf]; omega
                  · obtain rfl : s = 4 := by omega
                    go_wp2_with fail
                    go_roundw
                    case rel => exact ⟨i + 1, _, _, by omega, by go_num, HT, HQ', by rw [show 4 * (i + 1) = 4 * i + 4 by omega]; exact HR⟩
                    case measure => simp [intOf]; omega
              · obtain rfl : i = sg.length := by omega
                have HQE := Lib.hid (renS_end HQ.out)
                have HRE := Lib.hid (renM_end HR.out)
                have k0 := HT.out.k0
                have k1 := HT.out.k1
                have k2 := HT.out.k2
                have y0 := HT.out.st.zb.z0
                have y1 := HT.out.st.zb.z1
                have y2 := HT.out.st.zb.z2
                have g0' := HT.out.st.zb.f0
                have g1' := HT.out.st.zb.f1
                have g2' := HT.out.st.zb.f2
                have hlb := HT.out.lb
                clear HQ HR
                go_wp2_with fail
                have HF := Lib.hid (HT.out.fin (.slice (some ⟨g1, 0, none⟩) sg.length sg.length) (.slice (some ⟨g2, 0, none⟩) (4 * sg.length) (4 * sg.length)) (.int .i64 L))
                rw [HQE.out, HRE.out] at HF
                refine bodyPost_ret (v := .tuple #[.agg #[.slice (some ⟨g1, 0, none⟩) sg.length sg.length, .slice (some ⟨g2, 0, none⟩) (4 * sg.length) (4 * sg.length), .int .i64 L], .int .i64 0]) (by simp [results, Try.results36, go_sem, y0, y1, y2]) rfl ?_
                exact ⟨_, _, rfl, HF.out.1, HF.out.2⟩
end
end Go.Proofs.Ytkanpcdjhaepjaa
