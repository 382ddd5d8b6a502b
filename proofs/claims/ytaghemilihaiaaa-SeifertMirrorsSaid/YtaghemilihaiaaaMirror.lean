/-
  The contracts of mirror.move and of mirror.Mirror, Reflect and Reverse, at valid diagrams.
-/
import Derived.Test.YtaghemilihaiaaaDClone
import Derived.Test.YtaghemilihaiaaaCycF
import Derived.Deep.RegionHeld3
import Derived.IntWalk
import Derived.Deep.DeepCutAuto
namespace Go.Proofs.Ytaghemilihaiaaa
open Go.RowKit

/-- where the half-edge h is moved -/
def mvT (byF : Nat → Nat → Int) (h : Nat) : Nat := turnN h (byF (h / 4) (h % 4) % 4).toNat
theorem mvT_lt {byF : Nat → Nat → Int} {h n : Nat} (hh : h < 4 * n) : mvT byF h < 4 * n := turnN_lt hh
theorem mvT_div {byF : Nat → Nat → Int} {h : Nat} : mvT byF h / 4 = h / 4 := turnN_div ..
/-- the moved diagram -/
structure IsMv (sg mt : List Int) (byF : Nat → Nat → Int) (sgF : Nat → Int) (q r : List Int) : Prop where
  ql : q.length = sg.length
  rl : r.length = mt.length
  qe : ∀ c, c < sg.length → gi q c = gi sg c * sgF c
  re : ∀ h, h < mt.length → gi r (mvT byF h) = (mvT byF (gn mt h) : Int)
def MvS (sg : List Int) (sgF : Nat → Int) (k : Nat) (q : List Int) : Prop := q.length = sg.length ∧ ∀ c, c < k → gi q c = gi sg c * sgF c
def MvM (mt : List Int) (byF : Nat → Nat → Int) (k : Nat) (r : List Int) : Prop := r.length = mt.length ∧ ∀ h, h < k → gi r (mvT byF h) = (mvT byF (gn mt h) : Int)
theorem mvS_step {sg q : List Int} {sgF : Nat → Int} {k : Nat} (hk : k < sg.length) (h : MvS sg sgF k q) : MvS sg sgF (k + 1) (q.set k (gi sg k * sgF k)) := by
  refine ⟨by rw [List.length_set]; exact h.1, fun c hc => ?_⟩
  rw [gi_set (by rw [h.1]; exact hk)]
  by_cases e : c = k
  · subst e; rw [if_pos rfl]
  · rw [if_neg e]; exact h.2 c (by omega)
theorem mvM_step {mt r : List Int} {byF : Nat → Nat → Int} {k : Nat} (hi : ∀ a b, a < mt.length → b < mt.length → mvT byF a = mvT byF b → a = b) (hk : k < mt.length) (hl : mvT byF k < mt.length) (h : MvM mt byF k r) :
    MvM mt byF (k + 1) (r.set (mvT byF k) (mvT byF (gn mt k) : Int)) := by
  refine ⟨by rw [List.length_set]; exact h.1, fun c hc => ?_⟩
  rw [gi_set (by rw [h.1]; exact hl)]
  by_cases e : c = k
  · subst e; rw [if_pos rfl]
  · rw [if_neg fun e' => e (hi _ _ (by omega) hk e')]; exact h.2 c (by omega)

def ByOk (K : Nat) (lb : Array Value) (n : Nat) (byF : Nat → Nat → Int) (w : World) : Prop := ∀ (c x : Nat) (W : World), c < n → x < 4 → Below w.heap.size w W →
  Calls Try.prog K (#[.int .i64 c, .int .i64 x] ++ lb) W fun e w' => e = .returned (.int .i64 (byF c x)) ∧ Below W.heap.size W w'
def SgOk (K : Nat) (lb : Array Value) (n : Nat) (sgF : Nat → Int) (w : World) : Prop := ∀ (c : Nat) (W : World), c < n → Below w.heap.size w W →
  Calls Try.prog K (#[.int .i64 c] ++ lb) W fun e w' => e = .returned (.int .i64 (sgF c)) ∧ Below W.heap.size W w'

theorem ois_heap {w : World} {g n B : Nat} (h : w.heap[g]? = some (.cells (Array.replicate n (Value.int .i64 0)) 3 (0, 0))) (hB : B ≤ g) (hn : n ≤ maxLen) : OI w B (.slice (some ⟨g, 0, none⟩) n n) (List.replicate n 0) :=
  ⟨by simp, .inr ⟨g, n, _, by simp, hB, h, by simp, hn, by simp, by simp⟩⟩

/-- the boxes ahead of the result -/
structure M0St (w0 w : World) (A1 A2 : Option Addr) (c1 c2 : Nat) (sg mt : List Int) (L : Int) (vb : Value) : Prop where
  c0 : w.cell? ⟨w0.heap.size, 0, none⟩ = some (.slice A1 sg.length c1)
  c1 : w.cell? ⟨w0.heap.size, 1, none⟩ = some (.slice A2 mt.length c2)
  c2 : w.cell? ⟨w0.heap.size, 2, none⟩ = some (.int .i64 L)
  cb : w.cell? ⟨w0.heap.size + 1, 0, none⟩ = some vb
  rs : RI w (· < w0.heap.size) A1 sg
  rm : RI w (· < w0.heap.size) A2 mt
  zb : ZBox w (w0.heap.size + 2)
  bel : Below w0.heap.size w0 w
section
variable {w0 w w' : World} {A1 A2 : Option Addr} {c1 c2 : Nat} {sg mt : List Int} {L : Int} {vb : Value}
theorem M0St.keep (h : M0St w0 w A1 A2 c1 c2 sg mt L vb) (hk : ∀ b, b < w0.heap.size + 3 → w'.heap[b]? = w.heap[b]?) (hs : w.heap.size ≤ w'.heap.size) (hbl : Below w0.heap.size w0 w') : M0St w0 w' A1 A2 c1 c2 sg mt L vb := by
  have hz := h.zb
  refine ⟨(World.cell?_of_block (a := ⟨w0.heap.size, 0, none⟩) (hk _ (by simp))).trans h.c0, (World.cell?_of_block (a := ⟨w0.heap.size, 1, none⟩) (hk _ (by simp))).trans h.c1, (World.cell?_of_block (a := ⟨w0.heap.size, 2, none⟩) (hk _ (by simp))).trans h.c2,
    (World.cell?_of_block (a := ⟨w0.heap.size + 1, 0, none⟩) (hk _ (by simp))).trans h.cb, h.rs.keep fun b hlt => hk b (by omega), h.rm.keep fun b hlt => hk b (by omega), ?_, hbl⟩
  have e := hk (w0.heap.size + 2) (by omega)
  exact ⟨(World.cell?_of_block (a := ⟨w0.heap.size + 2, 0, none⟩) e).trans hz.z0, (World.cell?_of_block (a := ⟨w0.heap.size + 2, 1, none⟩) e).trans hz.z1, (World.cell?_of_block (a := ⟨w0.heap.size + 2, 2, none⟩) e).trans hz.z2,
    (World.frozen?_of_block (a := ⟨w0.heap.size + 2, 0, none⟩) e).trans hz.f0, (World.frozen?_of_block (a := ⟨w0.heap.size + 2, 1, none⟩) e).trans hz.f1, (World.frozen?_of_block (a := ⟨w0.heap.size + 2, 2, none⟩) e).trans hz.f2, Nat.lt_of_lt_of_le hz.lt hs⟩
theorem M0St.lt (h : M0St w0 w A1 A2 c1 c2 sg mt L vb) : w0.heap.size + 2 < w.heap.size := h.zb.lt
theorem M0St.call (h : M0St w0 w A1 A2 c1 c2 sg mt L vb) (hb : Below w.heap.size w w') : M0St w0 w' A1 A2 c1 c2 sg mt L vb :=
  h.keep (fun b hlt => hb.block b (by have := h.lt; omega)) hb.size (h.bel.trans (hb.mono h.bel.size))
theorem M0St.other (h : M0St w0 w A1 A2 c1 c2 sg mt L vb) {g : Nat} (hg : w0.heap.size + 2 < g) (k : Nat) (v : Value) : M0St w0 (w.setCell ⟨g, k, none⟩ v) A1 A2 c1 c2 sg mt L vb :=
  h.keep (fun b hlt => Below.heap_setCell w _ _ b (by show b ≠ g; omega)) (by simp) (h.bel.setCell (by show w0.heap.size ≤ g; omega) _)
theorem M0St.start {S : Nat → Prop} (hx : RI w0 S A1 sg) (hy : RI w0 S A2 mt) (hS : ∀ b, S b → b < w0.heap.size) (tb : TypeId) :
    M0St w0 (((w0.alloc (.cells #[.slice A1 sg.length c1, .slice A2 mt.length c2, .int .i64 L] 24)).alloc (.cells #[vb] tb)).alloc (.cells #[.slice none 0 0, .slice none 0 0, .int .i64 0] 24)) A1 A2 c1 c2 sg mt L vb := by
  have hd := ((DBox.start (c1 := c1) (c2 := c2) (L := L) S hx hy hS).below ((Below.refl _ _).alloc (Nat.le_refl _) (.cells #[vb] tb))).below ((Below.refl _ _).alloc (Nat.le_refl _) (.cells #[.slice none 0 0, .slice none 0 0, .int .i64 0] 24))
  have hb : Below w0.heap.size w0 (((w0.alloc (.cells #[.slice A1 sg.length c1, .slice A2 mt.length c2, .int .i64 L] 24)).alloc (.cells #[vb] tb)).alloc (.cells #[.slice none 0 0, .slice none 0 0, .int .i64 0] 24)) :=
    (((Below.refl _ _).alloc (Nat.le_refl _) _).alloc (by simp) _).alloc (by simp; omega) _
  have e1 : (w0.alloc (.cells #[.slice A1 sg.length c1, .slice A2 mt.length c2, .int .i64 L] 24)).heap.size = w0.heap.size + 1 := by simp
  have e2 : ((w0.alloc (.cells #[.slice A1 sg.length c1, .slice A2 mt.length c2, .int .i64 L] 24)).alloc (.cells #[vb] tb)).heap.size = w0.heap.size + 2 := by simp
  refine ⟨hd.c0, hd.c1, hd.c2, ?_, (hx.imp hS).below hb, (hy.imp hS).below hb, ?_, hb⟩
  · have h1 := heap_alloc_new (w0.alloc (.cells #[.slice A1 sg.length c1, .slice A2 mt.length c2, .int .i64 L] 24)) (.cells #[vb] tb)
    rw [e1] at h1
    have h2 := (Below.heap_alloc ((w0.alloc (.cells #[.slice A1 sg.length c1, .slice A2 mt.length c2, .int .i64 L] 24)).alloc (.cells #[vb] tb)) (.cells #[.slice none 0 0, .slice none 0 0, .int .i64 0] 24) (w0.heap.size + 1) (by rw [e2]; omega)).trans h1
    rw [cell_of_row _ _ _ _ _ _ h2]; rfl
  · have h1 := heap_alloc_new ((w0.alloc (.cells #[.slice A1 sg.length c1, .slice A2 mt.length c2, .int .i64 L] 24)).alloc (.cells #[vb] tb)) (.cells #[.slice none 0 0, .slice none 0 0, .int .i64 0] 24)
    rw [e2] at h1
    exact ZBox.new h1 (by simp)
end

/-- the result in the making: its box b, its signs q in the block g1, its mates r in the block g2 -/
structure MSt (w0 w : World) (A1 A2 : Option Addr) (c1 c2 : Nat) (sg mt : List Int) (L : Int) (vb : Value) (b g1 g2 : Nat) (q r : List Int) : Prop where
  st : M0St w0 w A1 A2 c1 c2 sg mt L vb
  k0 : w.cell? ⟨b, 0, none⟩ = some (.slice (some ⟨g1, 0, none⟩) sg.length sg.length)
  k1 : w.cell? ⟨b, 1, none⟩ = some (.slice (some ⟨g2, 0, none⟩) mt.length mt.length)
  k2 : w.cell? ⟨b, 2, none⟩ = some (.int .i64 L)
  o1 : OI w w0.heap.size (.slice (some ⟨g1, 0, none⟩) sg.length sg.length) q
  o2 : OI w w0.heap.size (.slice (some ⟨g2, 0, none⟩) mt.length mt.length) r
  l1 : q.length = sg.length
  l2 : r.length = mt.length
  n12 : g1 ≠ g2
  nb1 : b ≠ g1
  nb2 : b ≠ g2
  h1 : w0.heap.size + 2 < g1
  h2 : w0.heap.size + 2 < g2
  b1 : g1 < w.heap.size
  b2 : g2 < w.heap.size
  lb : b < w.heap.size
section
variable {w0 w w' : World} {A1 A2 : Option Addr} {c1 c2 : Nat} {sg mt : List Int} {L : Int} {vb : Value} {b g1 g2 : Nat} {q r : List Int}
theorem MSt.new (h : M0St w0 w' A1 A2 c1 c2 sg mt L vb) (hb : w'.heap[b]? = some (.cells #[.slice (some ⟨g1, 0, none⟩) sg.length sg.length, .slice (some ⟨g2, 0, none⟩) mt.length mt.length, .int .i64 L] 24 (0, 0)))
    (hg1 : w'.heap[g1]? = some (.cells (Array.replicate sg.length (Value.int .i64 0)) 3 (0, 0))) (hg2 : w'.heap[g2]? = some (.cells (Array.replicate mt.length (Value.int .i64 0)) 3 (0, 0)))
    (hn : sg.length ≤ 1000) (hn2 : mt.length ≤ 4000) (e12 : g1 ≠ g2) (m : Nat) (hm : w0.heap.size + 2 < m ∧ m ≤ b ∧ m ≤ g1 ∧ m ≤ g2) : MSt w0 w' A1 A2 c1 c2 sg mt L vb b g1 g2 (List.replicate sg.length 0) (List.replicate mt.length 0) := by
  refine ⟨h, ?_, ?_, ?_, ois_heap hg1 (by omega) (by unfold maxLen; omega), ois_heap hg2 (by omega) (by unfold maxLen; omega), by simp, by simp, e12, ?_, ?_, by omega, by omega, (Array.getElem?_eq_some_iff.1 hg1).1, (Array.getElem?_eq_some_iff.1 hg2).1, ?_⟩
  · rw [cell_of_row _ _ _ _ _ _ hb]; rfl
  · rw [cell_of_row _ _ _ _ _ _ hb]; rfl
  · rw [cell_of_row _ _ _ _ _ _ hb]; rfl
  · rintro rfl
    rw [hb] at hg1
    injection hg1 with e
    injection e with _ e
    exact absurd e (by decide)
  · rintro rfl
    rw [hb] at hg2
    injection hg2 with e
    injection e with _ e
    exact absurd e (by decide)
  · exact (Array.getElem?_eq_some_iff.1 hb).1
theorem MSt.call (h : MSt w0 w A1 A2 c1 c2 sg mt L vb b g1 g2 q r) (hb : Below w.heap.size w w') : MSt w0 w' A1 A2 c1 c2 sg mt L vb b g1 g2 q r :=
  ⟨h.st.call hb, (World.cell?_of_block (a := ⟨b, 0, none⟩) (hb.block b h.lb)).trans h.k0, (World.cell?_of_block (a := ⟨b, 1, none⟩) (hb.block b h.lb)).trans h.k1, (World.cell?_of_block (a := ⟨b, 2, none⟩) (hb.block b h.lb)).trans h.k2,
    h.o1.below hb (Nat.le_refl _), h.o2.below hb (Nat.le_refl _), h.l1, h.l2, h.n12, h.nb1, h.nb2, h.h1, h.h2, Nat.lt_of_lt_of_le h.b1 hb.size, Nat.lt_of_lt_of_le h.b2 hb.size, Nat.lt_of_lt_of_le h.lb hb.size⟩
theorem MSt.drew (h : MSt w0 w A1 A2 c1 c2 sg mt L vb b g1 g2 q r) : MSt w0 w.drew A1 A2 c1 c2 sg mt L vb b g1 g2 q r := h.call (Below.refl _ _).drew
theorem MSt.store1 (h : MSt w0 w A1 A2 c1 c2 sg mt L vb b g1 g2 q r) (k : Nat) (y : Int) : MSt w0 (w.setCell ⟨g1, k, none⟩ (.int .i64 y)) A1 A2 c1 c2 sg mt L vb b g1 g2 (q.set k y) r := by
  have hc : ∀ x, x ≠ g1 → (w.setCell ⟨g1, k, none⟩ (.int .i64 y)).heap[x]? = w.heap[x]? := fun x hx => Below.heap_setCell w _ _ x hx
  have ho := h.o1
  rw [← h.l1] at ho
  have h2 := OR.stored (k := k) ho y
  rw [List.length_set, h.l1] at h2
  exact ⟨h.st.other h.h1 k _, (World.cell?_of_block (a := ⟨b, 0, none⟩) (hc _ h.nb1)).trans h.k0, (World.cell?_of_block (a := ⟨b, 1, none⟩) (hc _ h.nb1)).trans h.k1, (World.cell?_of_block (a := ⟨b, 2, none⟩) (hc _ h.nb1)).trans h.k2,
    h2, h.o2.keep fun g hg => hc g (by simp [Value.ownBlock] at hg; intro e; exact h.n12 (by omega)), by rw [List.length_set]; exact h.l1, h.l2, h.n12, h.nb1, h.nb2, h.h1, h.h2, by simpa using h.b1, by simpa using h.b2, by simpa using h.lb⟩
theorem MSt.store2 (h : MSt w0 w A1 A2 c1 c2 sg mt L vb b g1 g2 q r) (k : Nat) (y : Int) : MSt w0 (w.setCell ⟨g2, k, none⟩ (.int .i64 y)) A1 A2 c1 c2 sg mt L vb b g1 g2 q (r.set k y) := by
  have hc : ∀ x, x ≠ g2 → (w.setCell ⟨g2, k, none⟩ (.int .i64 y)).heap[x]? = w.heap[x]? := fun x hx => Below.heap_setCell w _ _ x hx
  have ho := h.o2
  rw [← h.l2] at ho
  have h2 := OR.stored (k := k) ho y
  rw [List.length_set, h.l2] at h2
  exact ⟨h.st.other h.h2 k _, (World.cell?_of_block (a := ⟨b, 0, none⟩) (hc _ h.nb2)).trans h.k0, (World.cell?_of_block (a := ⟨b, 1, none⟩) (hc _ h.nb2)).trans h.k1, (World.cell?_of_block (a := ⟨b, 2, none⟩) (hc _ h.nb2)).trans h.k2,
    h.o1.keep fun g hg => hc g (by simp [Value.ownBlock] at hg; intro e; exact h.n12 (by omega)), h2, h.l1, by rw [List.length_set]; exact h.l2, h.n12, h.nb1, h.nb2, h.h1, h.h2, by simpa using h.b1, by simpa using h.b2, by simpa using h.lb⟩
theorem MSt.at1 (h : MSt w0 w A1 A2 c1 c2 sg mt L vb b g1 g2 q r) {k : Nat} (hk : k < sg.length) : w.cell? ⟨g1, k, none⟩ = some (.int .i64 (gi q k)) ∧ w.frozen? ⟨g1, k, none⟩ = false := by
  have := OR.ints_at h.o1 (by rw [h.l1]; omega)
  exact ⟨this.2.2.2.2.1 k (by rw [h.l1]; exact hk), this.2.2.2.2.2 k⟩
theorem MSt.at2 (h : MSt w0 w A1 A2 c1 c2 sg mt L vb b g1 g2 q r) {k : Nat} (hk : k < mt.length) : w.cell? ⟨g2, k, none⟩ = some (.int .i64 (gi r k)) ∧ w.frozen? ⟨g2, k, none⟩ = false := by
  have := OR.ints_at h.o2 (by rw [h.l2]; omega)
  exact ⟨this.2.2.2.2.1 k (by rw [h.l2]; exact hk), this.2.2.2.2.2 k⟩
theorem MSt.fin (h : MSt w0 w A1 A2 c1 c2 sg mt L vb b g1 g2 q r) (x y z : Value) :
    Fresh (((w.setCell ⟨w0.heap.size + 2, 0, none⟩ x).setCell ⟨w0.heap.size + 2, 1, none⟩ y).setCell ⟨w0.heap.size + 2, 2, none⟩ z) w0.heap.size (.slice (some ⟨g1, 0, none⟩) sg.length sg.length) (.slice (some ⟨g2, 0, none⟩) mt.length mt.length) q r ∧
    Below w0.heap.size w0 (((w.setCell ⟨w0.heap.size + 2, 0, none⟩ x).setCell ⟨w0.heap.size + 2, 1, none⟩ y).setCell ⟨w0.heap.size + 2, 2, none⟩ z) := by
  have hblk : ∀ g, w0.heap.size + 2 < g → (((w.setCell ⟨w0.heap.size + 2, 0, none⟩ x).setCell ⟨w0.heap.size + 2, 1, none⟩ y).setCell ⟨w0.heap.size + 2, 2, none⟩ z).heap[g]? = w.heap[g]? := fun g hg => by
    rw [Below.heap_setCell _ _ _ g (by simp; omega), Below.heap_setCell _ _ _ g (by simp; omega), Below.heap_setCell _ _ _ g (by simp; omega)]
  have e1 := h.h1
  have e2 := h.h2
  refine ⟨⟨h.o1.keep fun g hg => hblk g (by simp [Value.ownBlock] at hg; omega), h.o2.keep fun g hg => hblk g (by simp [Value.ownBlock] at hg; omega), fun g hg1 hg2 => ?_⟩, ?_⟩
  · simp [Value.ownBlock] at hg1 hg2
    exact h.n12 (by omega)
  · exact ((h.st.bel.setCell (by simp) _).setCell (by simp) _).setCell (by simp) _
theorem three3 (wr : World) (a b c : Obj) : (((wr.alloc a).alloc b).alloc c).drew.heap[wr.heap.size]? = some a ∧ (((wr.alloc a).alloc b).alloc c).drew.heap[wr.heap.size + 1]? = some b ∧ (((wr.alloc a).alloc b).alloc c).drew.heap[wr.heap.size + 1 + 1]? = some c := by
  have e1 : (wr.alloc a).heap.size = wr.heap.size + 1 := by simp
  have e2 : ((wr.alloc a).alloc b).heap.size = wr.heap.size + 1 + 1 := by simp
  refine ⟨?_, ?_, ?_⟩
  · show (((wr.alloc a).alloc b).alloc c).heap[wr.heap.size]? = some a
    rw [Below.heap_alloc _ _ _ (by omega), Below.heap_alloc _ _ _ (by omega)]
    exact heap_alloc_new _ _
  · show (((wr.alloc a).alloc b).alloc c).heap[wr.heap.size + 1]? = some b
    rw [Below.heap_alloc _ _ _ (by omega), ← e1]
    exact heap_alloc_new _ _
  · show (((wr.alloc a).alloc b).alloc c).heap[wr.heap.size + 1 + 1]? = some c
    rw [← e2]
    exact heap_alloc_new _ _
theorem keep0 (h : Hid (M0St w0 w A1 A2 c1 c2 sg mt L vb)) (hb : Below w.heap.size w w') :
    Hid (M0St w0 w' A1 A2 c1 c2 sg mt L vb) ∧ w'.cell? ⟨w0.heap.size, 0, none⟩ = some (.slice A1 sg.length c1) ∧ w'.cell? ⟨w0.heap.size, 1, none⟩ = some (.slice A2 mt.length c2) ∧ w'.cell? ⟨w0.heap.size, 2, none⟩ = some (.int .i64 L) := by
  have h' := h.out.call hb
  exact ⟨Lib.hid h', h'.c0, h'.c1, h'.c2⟩
end

theorem MSt.pack0 {w0 w : World} {A1 A2 : Option Addr} {c1 c2 : Nat} {sg mt : List Int} {L : Int} {vb : Value} {b g1 g2 : Nat} {q r : List Int} (h : MSt w0 w A1 A2 c1 c2 sg mt L vb b g1 g2 q r) :
    Hid (∃ q r, MSt w0 w A1 A2 c1 c2 sg mt L vb b g1 g2 q r) ∧ w.cell? ⟨b, 0, none⟩ = some (.slice (some ⟨g1, 0, none⟩) sg.length sg.length) := ⟨Lib.hid ⟨q, r, h⟩, h.k0⟩
theorem MSt.pack1 {w0 w : World} {A1 A2 : Option Addr} {c1 c2 : Nat} {sg mt : List Int} {L : Int} {vb : Value} {b g1 g2 : Nat} {q r : List Int} (h : MSt w0 w A1 A2 c1 c2 sg mt L vb b g1 g2 q r) :
    Hid (∃ q r, MSt w0 w A1 A2 c1 c2 sg mt L vb b g1 g2 q r) ∧ w.cell? ⟨b, 1, none⟩ = some (.slice (some ⟨g2, 0, none⟩) mt.length mt.length) := ⟨Lib.hid ⟨q, r, h⟩, h.k1⟩

set_option maxHeartbeats 1000000 in
theorem mto_any (Kb : Nat) (lb : Array Value) (n h bb : Nat) (byF : Nat → Nat → Int) (w W : World) (hK : Enters Kb) (hb : ByOk Kb lb n byF w) (hW : Below w.heap.size w W) (hh : h < 4 * n) (hn : n ≤ 1000) (hc : W.cell? ⟨bb, 0, none⟩ = some (.func (.func Kb) #[] lb)) :
    Calls Try.prog 75 #[.int .i64 h, .pointer (some ⟨bb, 0, none⟩)] W fun e w' => e = .returned (.int .i64 (mvT byF h)) ∧ Below W.heap.size W w' := by
  have HB := Lib.hid hb
  have HW := Lib.hid hW
  have hin : ∀ (args : Array Value) (w : World), (callFunc Kb args).run Try.prog w = .ok (.enter Kb args) w := hK
  obtain ⟨q, hq⟩ : ∃ q, h / 4 = q := ⟨_, rfl⟩
  obtain ⟨x, hx⟩ : ∃ x, h % 4 = x := ⟨_, rfl⟩
  have hqn : q < n := by omega
  have hx4 : x < 4 := by omega
  have HV : Hid (mvT byF h = turnN h (byF q x % 4).toNat) := by unfold mvT; rw [hq, hx]; trivial
  have e1 : ((h : Nat) : Int).tdiv 4 = (q : Int) := by rw [← hq]; exact Int.ofNat_tdiv h 4
  have e2 : ((h : Nat) : Int).tmod 4 = (x : Int) := by rw [← hx]; exact Int.ofNat_tmod h 4
  have e3 : ((h : Nat) : Int) / 4 = (q : Int) := by omega
  have e4 : ((h : Nat) : Int) % 4 = (x : Int) := by omega
  clear hb hW hK hq hx
  go_enter Try.func75, Try.ntmps75
  go_wp2_with fail
  refine (HB.out q x _ hqn hx4 HW.out).mono ?_
  rintro e w1 ⟨rfl, hb1⟩
  have HB1 := Lib.hid hb1
  clear hb1 e1 e2 e3 e4 hc
  go_wp2_with fail
  refine (turn_any h (byF q x) _ (by omega)).mono ?_
  rintro e w2 ⟨rfl, rfl⟩
  rw [← HV.out]
  go_wp2_with fail
  go_ret
  exact ⟨rfl, HB1.out⟩

def MvOk (sg mt : List Int) (byF : Nat → Nat → Int) (sgF : Nat → Int) (L : Int) (w : World) (e : Ending) (w' : World) : Prop :=
  ∃ v1 v2 q r, e = .returned (.agg #[v1, v2, .int .i64 L]) ∧ IsMv sg mt byF sgF q r ∧ Fresh w' w.heap.size v1 v2 q r ∧ Below w.heap.size w w'

set_option maxRecDepth 100000 in
set_option maxHeartbeats 8000000 in
theorem move_any (A1 A2 : Option Addr) (c1 c2 : Nat) (sg mt : List Int) (L : Int) (w : World) (S : Nat → Prop) (hx : RI w S A1 sg) (hy : RI w S A2 mt) (hS : ∀ b, S b → b < w.heap.size)
    (Kb Ks : Nat) (lb ls : Array Value) (hKb : Enters Kb) (hKs : Enters Ks) (byF : Nat → Nat → Int) (sgF : Nat → Int) (hd : IsD sg mt L) (hi : ∀ a b, a < mt.length → b < mt.length → mvT byF a = mvT byF b → a = b)
    (hsg : ∀ c, sgF c = 1 ∨ sgF c = -1) (hb : ByOk Kb lb sg.length byF w) (hs : SgOk Ks ls sg.length sgF w) :
    Calls Try.prog 58 #[.agg #[.slice A1 sg.length c1, .slice A2 mt.length c2, .int .i64 L], .func (.func Kb) #[] lb, .func (.func Ks) #[] ls] w (MvOk sg mt byF sgF L w) := by
  have T0 := Lib.hid (M0St.start (c1 := c1) (c2 := c2) (L := L) (vb := .func (.func Kb) #[] lb) hx hy hS 69)
  have HI := Lib.hid hi
  have HDD := Lib.hid hd
  have HSG := Lib.hid hsg
  have HS := Lib.hid hs
  have hn := hd.1
  have hN := hd.2.1
  have HN := Lib.hid hN
  have hm : mt.length ≤ 256 := by omega
  have hin : ∀ (args : Array Value) (w : World), (callFunc Ks args).run Try.prog w = .ok (.enter Ks args) w := hKs
  have HTO : Hid (∀ (h : Nat) (W : World) (b g1 g2 : Nat) (q r : List Int), h < mt.length → Hid (MSt w W A1 A2 c1 c2 sg mt L (.func (.func Kb) #[] lb) b g1 g2 q r) →
      Calls Try.prog 75 #[.int .i64 h, .pointer (some ⟨w.heap.size + 1, 0, none⟩)] W fun e w' => e = .returned (.int .i64 (mvT byF h)) ∧ Below W.heap.size W w') :=
    Lib.hid fun h W b g1 g2 q r hh hT => mto_any Kb lb sg.length h _ byF w W hKb hb hT.out.st.bel (by omega) (by omega) hT.out.st.cb
  have hmk1 := make_ints 22 Try.underlying22 sg.length (by omega)
  have hmk2 := make_ints 22 Try.underlying22 mt.length (by omega)
  have hlt0 := T0.out.lt
  have k0 := T0.out.c0
  have k1 := T0.out.c1
  have k2 := T0.out.c2
  clear hx hy hS hKb hKs hi hd hsg hb hs hN
  go_enter Try.func58, Try.ntmps58
  go_wp2_with fail
  generalize hW : ((w.alloc (.cells #[.slice A1 sg.length c1, .slice A2 mt.length c2, .int .i64 L] 24)).alloc (.cells #[.func (.func Kb) #[] lb] 69)).alloc (.cells #[.slice none 0 0, .slice none 0 0, .int .i64 0] 24) = wr at *
  clear hW
  go_cut [8] (fun v wx => ∃ b g1 g2 : Nat, v = .pointer (some ⟨b, 0, none⟩) ∧ Hid (MSt w wx A1 A2 c1 c2 sg mt L (.func (.func Kb) #[] lb) b g1 g2 (List.replicate sg.length 0) (List.replicate mt.length 0)))
  case first =>
    go_region_held3 (fun w' => Hid (M0St w w' A1 A2 c1 c2 sg mt L (.func (.func Kb) #[] lb)) ∧ w'.cell? ⟨w.heap.size, 0, none⟩ = some (.slice A1 sg.length c1) ∧ w'.cell? ⟨w.heap.size, 1, none⟩ = some (.slice A2 mt.length c2) ∧ w'.cell? ⟨w.heap.size, 2, none⟩ = some (.int .i64 L))
      ((refine keep0 T0 ?_; (repeat (first | exact Below.refl _ _ | refine Below.drew ?_ | refine Below.alloc ?_ (by simp <;> omega) _)))) (fail)
    all_goals
      go_wp2_with fail
      go_meet
      case rel =>
        have hheld := And.left (by assumption)
        first
          | exact ⟨_, _, _, rfl, Lib.hid (MSt.new (Hid.out hheld) (three3 _ _ _ _).1 (three3 _ _ _ _).2.1 (three3 _ _ _ _).2.2 (by omega) (by omega) (by omega) wr.heap.size ⟨hlt0, by omega, by omega, by omega⟩)⟩
          | exact ⟨_, _, _, rfl, Lib.hid (MSt.new (Hid.out hheld) (three3 _ _ _ _).1 (three3 _ _ _ _).2.2 (three3 _ _ _ _).2.1 (by omega) (by omega) (by omega) wr.heap.size ⟨hlt0, by omega, by omega, by omega⟩)⟩
          | exact ⟨_, _, _, rfl, Lib.hid (MSt.new (Hid.out hheld) (three3 _ _ _ _).2.1 (three3 _ _ _ _).1 (three3 _ _ _ _).2.2 (by omega) (by omega) (by omega) wr.heap.size ⟨hlt0, by omega, by omega, by omega⟩)⟩
          | exact ⟨_, _, _, rfl, Lib.hid (MSt.new (Hid.out hheld) (three3 _ _ _ _).2.1 (three3 _ _ _ _).2.2 (three3 _ _ _ _).1 (by omega) (by omega) (by omega) wr.heap.size ⟨hlt0, by omega, by omega, by omega⟩)⟩
          | exact ⟨_, _, _, rfl, Lib.hid (MSt.new (Hid.out hheld) (three3 _ _ _ _).2.2 (three3 _ _ _ _).1 (three3 _ _ _ _).2.1 (by omega) (by omega) (by omega) wr.heap.size ⟨hlt0, by omega, by omega, by omega⟩)⟩
          | exact ⟨_, _, _, rfl, Lib.hid (MSt.new (Hid.out hheld) (three3 _ _ _ _).2.2 (three3 _ _ _ _).2.1 (three3 _ _ _ _).1 (by omega) (by omega) (by omega) wr.heap.size ⟨hlt0, by omega, by omega, by omega⟩)⟩
  case rest =>
    obtain ⟨b, g1, g2, rfl, HT2⟩ := hcut
    clear T0 k0 k1 k2 hmk1 hmk2 hlt0
    have k0 := HT2.out.st.c0
    go_wp2_with fail
    clear k0
    go_loopw [28] (fun i wr => ∃ (k : Nat) (q : List Int), k ≤ sg.length ∧ i = .int .i64 k ∧ Hid (MSt w wr A1 A2 c1 c2 sg mt L (.func (.func Kb) #[] lb) b g1 g2 q (List.replicate mt.length 0)) ∧ Hid (MvS sg sgF k q)) (fun i _ => sg.length - (intOf i).toNat)
    case atStart => exact ⟨0, _, Nat.zero_le _, rfl, HT2, Lib.hid ⟨by simp, fun i h => by omega⟩⟩
    case round =>
      clear HT2
      obtain ⟨k, q, hk, rfl, HT, HQ⟩ := hrel
      by_cases hlt : k < sg.length
      · obtain ⟨bs, os, has, -, hcs⟩ := HT.out.st.rs.at_ hlt
        have k4 := hcs _ hlt
        have HTd := Lib.hid HT.out.drew
        have HQ' := Lib.hid (mvS_step hlt HQ.out)
        have hs1 := HDD.out.2.2.2.2.1 k hlt
        have hs2 := HSG.out k
        obtain ⟨s, hs⟩ : ∃ s, gi sg k = s := ⟨_, rfl⟩
        rw [hs] at k4 hs1 HQ'
        obtain ⟨t, ht⟩ : ∃ t, sgF k = t := ⟨_, rfl⟩
        have HTT := Lib.hid ht
        rw [ht] at hs2 HQ'
        have hw : IntKind.i64.wrap (s * t) = s * t := by rcases hs1 with rfl | rfl <;> rcases hs2 with rfl | rfl <;> rfl
        have z2 : (0 : Int) ≤ (k : Int) ∧ (k : Int) < (sg.length : Int) := by omega
        clear hcs hs ht HT HQ hs1 hs2
        subst has
        go_wp2_with fail
        go_region_held3 (fun w' => Hid (∃ q r, MSt w w' (some ⟨bs, os, none⟩) A2 c1 c2 sg mt L (.func (.func Kb) #[] lb) b g1 g2 q r) ∧ w'.cell? ⟨b, 0, none⟩ = some (.slice (some ⟨g1, 0, none⟩) sg.length sg.length))
          (first | exact HTd.out.pack0 | exact hT9.pack0 | exact (hT9.store1 _ _).pack0)
          (((refine (HS.out k wr.drew hlt HTd.out.st.bel).mono ?_); rintro e9 w9 ⟨rfl, hb9⟩; have hT9 := HTd.out.call hb9; obtain ⟨c9, f9⟩ := hT9.at1 hlt; rw [HTT.out]))
        have HT' := Lib.hid (hT9.store1 k (s * t))
        clear hT9 c9 f9 hb9 hw HTd
        go_wp2_with fail
        go_roundw
        case rel => exact ⟨k + 1, _, by omega, by go_num, HT', HQ'⟩
        case measure => simp [intOf]; omega
      · obtain rfl : k = sg.length := by omega
        have k1 := HT.out.st.c1
        go_wp2_with fail
        clear k1
        have HR0 : Hid (MvM mt byF 0 (List.replicate mt.length 0)) := Lib.hid ⟨by simp, fun i h => by omega⟩
        go_loopw [46] (fun i wr => ∃ (k : Nat) (r : List Int), k ≤ mt.length ∧ i = .int .i64 k ∧ Hid (MSt w wr A1 A2 c1 c2 sg mt L (.func (.func Kb) #[] lb) b g1 g2 q r) ∧ Hid (MvM mt byF k r)) (fun i _ => mt.length - (intOf i).toNat)
        case atStart => exact ⟨0, _, Nat.zero_le _, rfl, HT, HR0⟩
        case round =>
          clear HT HR0
          obtain ⟨k, r, hk, rfl, HT, HR⟩ := hrel
          by_cases hlt2 : k < mt.length
          · obtain ⟨bs, os, has, -, hcs⟩ := HT.out.st.rm.at_ hlt2
            have k4 := hcs _ hlt2
            obtain ⟨gn1, gn2, -, -⟩ := HDD.out.2.2.2.2.2.1.gn hlt2
            rw [gn1] at k4
            have HTd := Lib.hid HT.out.drew
            have hll : mvT byF k < mt.length := by have := HN.out; rw [this] at hlt2 ⊢; exact mvT_lt hlt2
            have HR' := Lib.hid (mvM_step HI.out hlt2 hll HR.out)
            obtain ⟨m, hm'⟩ : ∃ m, gn mt k = m := ⟨_, rfl⟩
            rw [hm'] at k4 gn2 HR'
            obtain ⟨x, hx⟩ : ∃ x, mvT byF k = x := ⟨_, rfl⟩
            obtain ⟨y, hy⟩ : ∃ y, mvT byF m = y := ⟨_, rfl⟩
            rw [hx] at hll HR'
            rw [hy] at HR'
            have HXX := Lib.hid hx
            have HYY := Lib.hid hy
            have z2 : (0 : Int) ≤ (x : Int) ∧ (x : Int) < (mt.length : Int) := by omega
            clear hcs hx hy hm' HT HR gn1
            subst has
            go_wp2_with fail
            go_region_held3 (fun w' => Hid (∃ q r, MSt w w' A1 (some ⟨bs, os, none⟩) c1 c2 sg mt L (.func (.func Kb) #[] lb) b g1 g2 q r) ∧ w'.cell? ⟨b, 1, none⟩ = some (.slice (some ⟨g2, 0, none⟩) mt.length mt.length))
              (first | exact HTd.out.pack1 | exact hT7.out.pack1 | exact hT8.out.pack1 | exact (hT7.out.store2 _ _).pack1 | exact (hT8.out.store2 _ _).pack1)
              (first
                | (go_at_call 75; with_reducible (show Calls _ _ #[Value.int .i64 (k : Int), _] _ _); (first | (refine (HTO.out k wr.drew _ _ _ _ _ hlt2 HTd).mono ?_; rintro e7 w7 ⟨rfl, hb7⟩; have hT7 := Lib.hid (HTd.out.call hb7)) | (refine (HTO.out k w8 _ _ _ _ _ hlt2 hT8).mono ?_; rintro e7 w7 ⟨rfl, hb7⟩; have hT7 := Lib.hid (hT8.out.call hb7))); obtain ⟨c7, f7⟩ := hT7.out.at2 hll; rw [HXX.out])
                | (go_at_call 75; with_reducible (show Calls _ _ #[Value.int .i64 (m : Int), _] _ _); (first | (refine (HTO.out m wr.drew _ _ _ _ _ gn2 HTd).mono ?_; rintro e8 w8 ⟨rfl, hb8⟩; have hT8 := Lib.hid (HTd.out.call hb8)) | (refine (HTO.out m w7 _ _ _ _ _ gn2 hT7).mono ?_; rintro e8 w8 ⟨rfl, hb8⟩; have hT8 := Lib.hid (hT7.out.call hb8))); obtain ⟨c8, f8⟩ := hT8.out.at2 hll; rw [HYY.out]))
            all_goals clear k4
            all_goals go_wp2_with fail
            all_goals go_roundw
            all_goals first
              | (case rel => first | exact ⟨k + 1, _, by omega, by go_num, Lib.hid (hT8.out.store2 _ _), HR'⟩ | exact ⟨k + 1, _, by omega, by go_num, Lib.hid (hT7.out.store2 _ _), HR'⟩)
              | (case measure => simp [intOf]; omega)
          · obtain rfl : k = mt.length := by omega
            have k0 := HT.out.k0
            have k1 := HT.out.k1
            have k2 := HT.out.k2
            have y0 := HT.out.st.zb.z0
            have y1 := HT.out.st.zb.z1
            have y2 := HT.out.st.zb.z2
            have g0' := HT.out.st.zb.f0
            have g1' := HT.out.st.zb.f1
            have g2' := HT.out.st.zb.f2
            have hlb := HT.out.lb
            have HF := Lib.hid (HT.out.fin (.slice (some ⟨g1, 0, none⟩) sg.length sg.length) (.slice (some ⟨g2, 0, none⟩) mt.length mt.length) (.int .i64 L))
            have HIM : Hid (IsMv sg mt byF sgF q r) := Lib.hid ⟨HQ.out.1, HR.out.1, HQ.out.2, HR.out.2⟩
            go_wp2_with fail
            refine bodyPost_ret (v := .agg #[.slice (some ⟨g1, 0, none⟩) sg.length sg.length, .slice (some ⟨g2, 0, none⟩) mt.length mt.length, .int .i64 L]) (by simp [results, Try.results58, go_sem, y0, y1, y2]) rfl ?_
            exact ⟨_, _, _, _, rfl, HIM.out, HF.out.1, HF.out.2⟩

/-- how many slots each kind moves a half-edge: the mirror image, the reflection, the reverse -/
def byM (sg : List Int) (c _x : Nat) : Int := if gi sg c = 1 then -3 else -1
def byF (_c x : Nat) : Int := 4 - 2 * (x : Int)
def byR (_c _x : Nat) : Int := 2
def sgN (_c : Nat) : Int := -1
def sgP (_c : Nat) : Int := 1

theorem mvT_M {sg : List Int} (a : Nat) : mvT (byM sg) a = turnN a (if gi sg (a / 4) = 1 then 1 else 3) := by
  unfold mvT byM
  split <;> rfl
theorem mvT_F (a : Nat) : mvT byF a = turnN a (if a % 2 = 1 then 2 else 0) := by
  unfold mvT byF
  congr 1
  have hc : a % 4 = 0 ∨ a % 4 = 1 ∨ a % 4 = 2 ∨ a % 4 = 3 := by omega
  rcases hc with e | e | e | e <;> rw [e]
  · rw [if_neg (by omega)]; rfl
  · rw [if_pos (by omega)]; rfl
  · rw [if_neg (by omega)]; rfl
  · rw [if_pos (by omega)]; rfl
theorem mvT_R (a : Nat) : mvT byR a = turnN a 2 := rfl
theorem inj_M {sg : List Int} (a b : Nat) (h : mvT (byM sg) a = mvT (byM sg) b) : a = b := by
  have e : a / 4 = b / 4 := by rw [← mvT_div (byF := byM sg), h, mvT_div]
  rw [mvT_M, mvT_M, e] at h
  exact turnN_inj h
theorem inj_F (a b : Nat) (h : mvT byF a = mvT byF b) : a = b := by
  have e : a / 4 = b / 4 := by rw [← mvT_div (byF := byF), h, mvT_div]
  rw [mvT_F, mvT_F] at h
  unfold turnN at h
  split at h <;> split at h <;> omega
theorem inj_R (a b : Nat) (h : mvT byR a = mvT byR b) : a = b := turnN_inj h

/-! ### the closures -/
theorem sgn_R (n : Nat) (w : World) : SgOk 61 #[] n sgP w := by
  intro c W _ _
  show Calls _ _ #[.int .i64 c] _ _
  go_enter Try.func61, Try.ntmps61
  go_wp2_with fail
  go_ret
  exact ⟨rfl, Below.refl _ _⟩
theorem by_R (n : Nat) (w : World) : ByOk 60 #[] n byR w := by
  intro c x W _ _ _
  show Calls _ _ #[.int .i64 c, .int .i64 x] _ _
  go_enter Try.func60, Try.ntmps60
  go_wp2_with fail
  go_ret
  exact ⟨rfl, Below.refl _ _⟩
theorem sgn_F (n : Nat) (w : World) : SgOk 59 #[] n sgN w := by
  intro c W _ _
  show Calls _ _ #[.int .i64 c] _ _
  go_enter Try.func59, Try.ntmps59
  go_wp2_with fail
  go_ret
  exact ⟨rfl, Below.refl _ _⟩
theorem by_F (n : Nat) (w : World) : ByOk 57 #[] n byF w := by
  intro c x W _ hx _
  show Calls _ _ #[.int .i64 c, .int .i64 x] _ _
  go_enter Try.func57, Try.ntmps57
  go_wp2_with fail
  go_ret
  exact ⟨rfl, Below.refl _ _⟩
theorem chosen_all (W : World) (c : Int) : Calls Try.prog 56 #[.int .i64 c] W fun e w' => e = .returned (.bool true) ∧ W = w' := by
  go_enter Try.func56, Try.ntmps56
  go_wp2_with fail
  go_ret
  exact ⟨rfl, rfl⟩
theorem enR1 : Enters 60 := enters_of Try.func60 (by kernel_rfl) rfl
theorem enR2 : Enters 61 := enters_of Try.func61 (by kernel_rfl) rfl
theorem enF1 : Enters 57 := enters_of Try.func57 (by kernel_rfl) rfl
theorem enF2 : Enters 59 := enters_of Try.func59 (by kernel_rfl) rfl
theorem enE1 : Enters 73 := enters_of Try.func73 (by kernel_rfl) rfl
theorem enE2 : Enters 74 := enters_of Try.func74 (by kernel_rfl) rfl
theorem enM1 : Enters 56 := enters_of Try.func56 (by kernel_rfl) rfl
theorem sgn_M (n b3 : Nat) (w : World) (hc : w.cell? ⟨b3, 0, none⟩ = some (.func (.func 56) #[] #[])) (hl : b3 < w.heap.size) : SgOk 74 #[.pointer (some ⟨b3, 0, none⟩)] n sgN w := by
  intro c W _ hW
  show Calls _ _ #[.int .i64 c, .pointer (some ⟨b3, 0, none⟩)] _ _
  have k3 := (World.cell?_of_block (a := ⟨b3, 0, none⟩) (hW.block b3 hl)).trans hc
  have hin : ∀ (args : Array Value) (w : World), (callFunc 56 args).run Try.prog w = .ok (.enter 56 args) w := enM1
  clear hc hl hW
  go_enter Try.func74, Try.ntmps74
  go_wp2_with fail
  refine (chosen_all _ _).mono ?_
  rintro e w1 ⟨rfl, rfl⟩
  go_wp2_with fail
  go_ret
  exact ⟨rfl, Below.refl _ _⟩
set_option maxHeartbeats 1000000 in
theorem by_M {w : World} {b2 b3 : Nat} {A1 A2 : Option Addr} {c1 c2 : Nat} {sg mt : List Int} {L : Int} (hd : DBox w b2 A1 A2 c1 c2 sg mt L) (hc : w.cell? ⟨b3, 0, none⟩ = some (.func (.func 56) #[] #[])) (hl : b3 < w.heap.size) (_hm : sg.length ≤ 1000) :
    ByOk 73 #[.pointer (some ⟨b3, 0, none⟩), .pointer (some ⟨b2, 0, none⟩)] sg.length (byM sg) w := by
  intro c x W hcn hx hW
  show Calls _ _ #[.int .i64 c, .int .i64 x, .pointer (some ⟨b3, 0, none⟩), .pointer (some ⟨b2, 0, none⟩)] _ _
  have k3 := (World.cell?_of_block (a := ⟨b3, 0, none⟩) (hW.block b3 hl)).trans hc
  have hin : ∀ (args : Array Value) (w : World), (callFunc 56 args).run Try.prog w = .ok (.enter 56 args) w := enM1
  have hD := hd.below hW
  have k0 := hD.c0
  obtain ⟨bs, os, rfl, -, hcs⟩ := hD.rs.at_ hcn
  have k4 := hcs _ hcn
  by_cases e : gi sg c = 1
  · have hv : byM sg c x = -3 := if_pos e
    rw [hv]
    rw [e] at k4
    have z : (0 : Int) ≤ (c : Int) ∧ (c : Int) < (sg.length : Int) := by omega
    clear hd hc hl hW hD hcs e hv
    go_enter Try.func73, Try.ntmps73
    go_wp2_with fail
    refine (chosen_all _ _).mono ?_
    rintro e w1 ⟨rfl, rfl⟩
    go_wp2_with fail
    go_ret
    exact ⟨rfl, Below.refl _ _⟩
  · have hv : byM sg c x = -1 := if_neg e
    rw [hv]
    obtain ⟨s, hs⟩ : ∃ s, gi sg c = s := ⟨_, rfl⟩
    rw [hs] at k4 e
    have z : (0 : Int) ≤ (c : Int) ∧ (c : Int) < (sg.length : Int) := by omega
    have e1 : (s == 1) = false := by simpa using e
    clear hd hc hl hW hD hcs e hv hs
    go_enter Try.func73, Try.ntmps73
    go_wp2_with fail
    refine (chosen_all _ _).mono ?_
    rintro e w1 ⟨rfl, rfl⟩
    go_wp2_with fail
    go_ret
    exact ⟨rfl, Below.refl _ _⟩

/-! ### the three images -/
def MvE (sg mt : List Int) (by_ : Nat → Nat → Int) (sgF : Nat → Int) (L : Int) (w : World) (e : Ending) (w' : World) : Prop :=
  ∃ v1 v2 q r, e = .returned (.tuple #[.agg #[v1, v2, .int .i64 L], .int .i64 0]) ∧ IsMv sg mt by_ sgF q r ∧ Fresh w' w.heap.size v1 v2 q r ∧ Below w.heap.size w w'
/-- a diagram's box and a result's box behind it -/
structure BZ (w0 w : World) (b : Nat) (A1 A2 : Option Addr) (c1 c2 : Nat) (sg mt : List Int) (L : Int) : Prop where
  db : DBox w w0.heap.size A1 A2 c1 c2 sg mt L
  zb : ZBox w b
  be : w0.heap.size < b
  bel : Below w0.heap.size w0 w
section
variable {w0 w w' : World} {b : Nat} {A1 A2 : Option Addr} {c1 c2 : Nat} {sg mt : List Int} {L : Int}
theorem BZ.call (h : BZ w0 w b A1 A2 c1 c2 sg mt L) (hb : Below w.heap.size w w') : BZ w0 w' b A1 A2 c1 c2 sg mt L := ⟨h.db.below hb, h.zb.below hb, h.be, h.bel.trans (hb.mono h.bel.size)⟩
theorem BZ.start {S : Nat → Prop} (hx : RI w0 S A1 sg) (hy : RI w0 S A2 mt) (hS : ∀ b, S b → b < w0.heap.size) :
    BZ w0 ((w0.alloc (.cells #[.slice A1 sg.length c1, .slice A2 mt.length c2, .int .i64 L] 24)).alloc (.cells #[.slice none 0 0, .slice none 0 0, .int .i64 0] 24)) (w0.heap.size + 1) A1 A2 c1 c2 sg mt L := by
  have h1 := heap_alloc_new (w0.alloc (.cells #[.slice A1 sg.length c1, .slice A2 mt.length c2, .int .i64 L] 24)) (.cells #[.slice none 0 0, .slice none 0 0, .int .i64 0] 24)
  have e1 : (w0.alloc (.cells #[.slice A1 sg.length c1, .slice A2 mt.length c2, .int .i64 L] 24)).heap.size = w0.heap.size + 1 := by simp
  rw [e1] at h1
  exact ⟨(DBox.start (c1 := c1) (c2 := c2) (L := L) S hx hy hS).below ((Below.refl _ _).alloc (Nat.le_refl _) _), ZBox.new h1 (by simp), by omega, ((Below.refl _ _).alloc (Nat.le_refl _) _).alloc (by simp) _⟩
theorem BZ.fin {B : Nat} {v1 v2 : Value} {q r : List Int} (h : BZ w0 w b A1 A2 c1 c2 sg mt L) (hb : Below w.heap.size w w') (hF : Fresh w' w.heap.size v1 v2 q r) (hB : b < w.heap.size) (he : B = w0.heap.size) (x y z : Value) :
    Fresh (((w'.setCell ⟨b, 0, none⟩ x).setCell ⟨b, 1, none⟩ y).setCell ⟨b, 2, none⟩ z) B v1 v2 q r ∧ Below w0.heap.size w0 (((w'.setCell ⟨b, 0, none⟩ x).setCell ⟨b, 1, none⟩ y).setCell ⟨b, 2, none⟩ z) := by
  subst he
  have hbe := h.be
  have hs := h.bel.size
  have hblk : ∀ g, b < g → (((w'.setCell ⟨b, 0, none⟩ x).setCell ⟨b, 1, none⟩ y).setCell ⟨b, 2, none⟩ z).heap[g]? = w'.heap[g]? := fun g hg => by
    rw [Below.heap_setCell _ _ _ g (by show g ≠ b; omega), Below.heap_setCell _ _ _ g (by show g ≠ b; omega), Below.heap_setCell _ _ _ g (by show g ≠ b; omega)]
  have hbw := (h.call hb).bel
  refine ⟨⟨(hF.os.keep fun g hg => hblk g (by have := (hF.os.lt g hg).1; omega)).mono hs, (hF.om.keep fun g hg => hblk g (by have := (hF.om.lt g hg).1; omega)).mono hs, hF.ne⟩, ?_⟩
  exact ((hbw.setCell (by show w0.heap.size ≤ b; omega) _).setCell (by show w0.heap.size ≤ b; omega) _).setCell (by show w0.heap.size ≤ b; omega) _
end
section
variable (A1 A2 : Option Addr) (c1 c2 : Nat) (sg mt : List Int) (L : Int) (w : World) (S : Nat → Prop) (hx : RI w S A1 sg) (hy : RI w S A2 mt) (hS : ∀ b, S b → b < w.heap.size) (hd : IsD sg mt L)
include hx hy hS hd

set_option maxHeartbeats 2000000 in
theorem reflect_ok : Calls Try.prog 31 #[.agg #[.slice A1 sg.length c1, .slice A2 mt.length c2, .int .i64 L]] w (MvE sg mt byF sgN L w) := by
  have H0 := Lib.hid (BZ.start (c1 := c1) (c2 := c2) (L := L) hx hy hS)
  have H := Lib.hid (decide_eq_true hd)
  have hm1 : sg.length ≤ maxLen := by have := hd.1; unfold maxLen; omega
  have hm2 : mt.length ≤ maxLen := by have := hd.1; have := hd.2.1; unfold maxLen; omega
  have HDD := Lib.hid hd
  clear hx hy hS hd
  go_enter Try.func31, Try.ntmps31
  go_wp2_with fail
  refine (dvalid_is _ true H0.out.db.rs H0.out.db.rm (fun _ h => h) hm1 hm2 H.out).mono ?_
  rintro e w1 ⟨rfl, hb1⟩
  have H1 := Lib.hid (H0.out.call hb1)
  have k0 := H1.out.db.c0
  have k1 := H1.out.db.c1
  have k2 := H1.out.db.c2
  have hlb := H1.out.zb.lt
  clear hb1 H0
  go_wp2_with fail
  refine (move_any A1 A2 c1 c2 sg mt L w1 (· < w1.heap.size) H1.out.db.rs H1.out.db.rm (fun _ h => h) 57 59 #[] #[] enF1 enF2 byF sgN HDD.out (fun a b _ _ h => inj_F a b h) (fun _ => .inr rfl) (by_F _ _) (sgn_F _ _)).mono ?_
  rintro e w2 ⟨v1, v2, q, r, rfl, him, hF, hb2⟩
  have H2 := Lib.hid (H1.out.call hb2)
  have HIM := Lib.hid him
  have y0 := H2.out.zb.z0
  have y1 := H2.out.zb.z1
  have y2 := H2.out.zb.z2
  have g0 := H2.out.zb.f0
  have g1 := H2.out.zb.f1
  have g2 := H2.out.zb.f2
  have hlb2 := H2.out.zb.lt
  obtain ⟨a1, d1, rfl, -, -, -⟩ := hF.os.shape
  obtain ⟨a2, d2, rfl, -, -, -⟩ := hF.om.shape
  obtain ⟨n1, hn1⟩ : ∃ n, q.length = n := ⟨_, rfl⟩
  obtain ⟨n2, hn2⟩ : ∃ n, r.length = n := ⟨_, rfl⟩
  rw [hn1, hn2] at hF ⊢
  have HEND := Lib.hid (H1.out.fin hb2 hF hlb rfl (.slice a1 n1 d1) (.slice a2 n2 d2) (.int .i64 L))
  clear hF hb2 him H1 k0 k1 k2 hn1 hn2
  go_wp2_with fail
  refine bodyPost_ret (v := .tuple #[.agg #[.slice a1 n1 d1, .slice a2 n2 d2, .int .i64 L], .int .i64 0]) (by simp [results, Try.results31, go_sem, y0, y1, y2]) rfl ?_
  exact ⟨_, _, _, _, rfl, HIM.out, HEND.out.1, HEND.out.2⟩

set_option maxHeartbeats 2000000 in
theorem reverse_ok : Calls Try.prog 32 #[.agg #[.slice A1 sg.length c1, .slice A2 mt.length c2, .int .i64 L]] w (MvE sg mt byR sgP L w) := by
  have H0 := Lib.hid (BZ.start (c1 := c1) (c2 := c2) (L := L) hx hy hS)
  have H := Lib.hid (decide_eq_true hd)
  have hm1 : sg.length ≤ maxLen := by have := hd.1; unfold maxLen; omega
  have hm2 : mt.length ≤ maxLen := by have := hd.1; have := hd.2.1; unfold maxLen; omega
  have HDD := Lib.hid hd
  clear hx hy hS hd
  go_enter Try.func32, Try.ntmps32
  go_wp2_with fail
  refine (dvalid_is _ true H0.out.db.rs H0.out.db.rm (fun _ h => h) hm1 hm2 H.out).mono ?_
  rintro e w1 ⟨rfl, hb1⟩
  have H1 := Lib.hid (H0.out.call hb1)
  have k0 := H1.out.db.c0
  have k1 := H1.out.db.c1
  have k2 := H1.out.db.c2
  have hlb := H1.out.zb.lt
  clear hb1 H0
  go_wp2_with fail
  refine (move_any A1 A2 c1 c2 sg mt L w1 (· < w1.heap.size) H1.out.db.rs H1.out.db.rm (fun _ h => h) 60 61 #[] #[] enR1 enR2 byR sgP HDD.out (fun a b _ _ h => inj_R a b h) (fun _ => .inl rfl) (by_R _ _) (sgn_R _ _)).mono ?_
  rintro e w2 ⟨v1, v2, q, r, rfl, him, hF, hb2⟩
  have H2 := Lib.hid (H1.out.call hb2)
  have HIM := Lib.hid him
  have y0 := H2.out.zb.z0
  have y1 := H2.out.zb.z1
  have y2 := H2.out.zb.z2
  have g0 := H2.out.zb.f0
  have g1 := H2.out.zb.f1
  have g2 := H2.out.zb.f2
  have hlb2 := H2.out.zb.lt
  obtain ⟨a1, d1, rfl, -, -, -⟩ := hF.os.shape
  obtain ⟨a2, d2, rfl, -, -, -⟩ := hF.om.shape
  obtain ⟨n1, hn1⟩ : ∃ n, q.length = n := ⟨_, rfl⟩
  obtain ⟨n2, hn2⟩ : ∃ n, r.length = n := ⟨_, rfl⟩
  rw [hn1, hn2] at hF ⊢
  have HEND := Lib.hid (H1.out.fin hb2 hF hlb rfl (.slice a1 n1 d1) (.slice a2 n2 d2) (.int .i64 L))
  clear hF hb2 him H1 k0 k1 k2 hn1 hn2
  go_wp2_with fail
  refine bodyPost_ret (v := .tuple #[.agg #[.slice a1 n1 d1, .slice a2 n2 d2, .int .i64 L], .int .i64 0]) (by simp [results, Try.results32, go_sem, y0, y1, y2]) rfl ?_
  exact ⟨_, _, _, _, rfl, HIM.out, HEND.out.1, HEND.out.2⟩

set_option maxHeartbeats 2000000 in
theorem exchange_ok : Calls Try.prog 55 #[.agg #[.slice A1 sg.length c1, .slice A2 mt.length c2, .int .i64 L], .func (.func 56) #[] #[]] w (MvOk sg mt (byM sg) sgN L w) := by
  have T0 := Lib.hid (M0St.start (c1 := c1) (c2 := c2) (L := L) (vb := .func (.func 56) #[] #[]) hx hy hS 68)
  have HDD := Lib.hid hd
  have hm := hd.1
  clear hx hy hS hd
  go_enter Try.func55, Try.ntmps55
  go_wp2_with fail
  generalize hW : ((w.alloc (.cells #[.slice A1 sg.length c1, .slice A2 mt.length c2, .int .i64 L] 24)).alloc (.cells #[.func (.func 56) #[] #[]] 68)).alloc (.cells #[.slice none 0 0, .slice none 0 0, .int .i64 0] 24) = w1 at *
  clear hW
  have H1 : Hid (BZ w w1 (w.heap.size + 2) A1 A2 c1 c2 sg mt L) := Lib.hid ⟨⟨T0.out.c0, T0.out.c1, T0.out.c2, by have := T0.out.lt; omega, T0.out.rs.imp fun b hb => by have := T0.out.lt; omega, T0.out.rm.imp fun b hb => by have := T0.out.lt; omega⟩, T0.out.zb, by omega, T0.out.bel⟩
  have k0 := H1.out.db.c0
  have k1 := H1.out.db.c1
  have k2 := H1.out.db.c2
  have hlb := H1.out.zb.lt
  go_wp2_with fail
  refine (move_any A1 A2 c1 c2 sg mt L w1 (· < w1.heap.size) H1.out.db.rs H1.out.db.rm (fun _ h => h) 73 74 #[.pointer (some ⟨w.heap.size + 1, 0, none⟩), .pointer (some ⟨w.heap.size, 0, none⟩)] #[.pointer (some ⟨w.heap.size + 1, 0, none⟩)] enE1 enE2 (byM sg) sgN HDD.out (fun a b _ _ h => inj_M a b h) (fun _ => .inr rfl) (by_M H1.out.db T0.out.cb (by omega) (by omega)) (sgn_M _ _ _ T0.out.cb (by omega))).mono ?_
  rintro e w2 ⟨v1, v2, q, r, rfl, him, hF, hb2⟩
  have H2 := Lib.hid (H1.out.call hb2)
  have HIM := Lib.hid him
  have y0 := H2.out.zb.z0
  have y1 := H2.out.zb.z1
  have y2 := H2.out.zb.z2
  have g0 := H2.out.zb.f0
  have g1 := H2.out.zb.f1
  have g2 := H2.out.zb.f2
  have hlb2 := H2.out.zb.lt
  obtain ⟨a1, d1, rfl, -, -, -⟩ := hF.os.shape
  obtain ⟨a2, d2, rfl, -, -, -⟩ := hF.om.shape
  obtain ⟨n1, hn1⟩ : ∃ n, q.length = n := ⟨_, rfl⟩
  obtain ⟨n2, hn2⟩ : ∃ n, r.length = n := ⟨_, rfl⟩
  rw [hn1, hn2] at hF ⊢
  have HEND := Lib.hid (H1.out.fin hb2 hF hlb rfl (.slice a1 n1 d1) (.slice a2 n2 d2) (.int .i64 L))
  clear hF hb2 him H1 k0 k1 k2 hn1 hn2 T0
  go_wp2_with fail
  refine bodyPost_ret (v := .agg #[.slice a1 n1 d1, .slice a2 n2 d2, .int .i64 L]) (by simp [results, Try.results55, go_sem, y0, y1, y2]) rfl ?_
  exact ⟨_, _, _, _, rfl, HIM.out, HEND.out.1, HEND.out.2⟩

set_option maxHeartbeats 2000000 in
theorem mirror_ok : Calls Try.prog 30 #[.agg #[.slice A1 sg.length c1, .slice A2 mt.length c2, .int .i64 L]] w (MvE sg mt (byM sg) sgN L w) := by
  have H0 := Lib.hid (BZ.start (c1 := c1) (c2 := c2) (L := L) hx hy hS)
  have H := Lib.hid (decide_eq_true hd)
  have hm1 : sg.length ≤ maxLen := by have := hd.1; unfold maxLen; omega
  have hm2 : mt.length ≤ maxLen := by have := hd.1; have := hd.2.1; unfold maxLen; omega
  have HDD := Lib.hid hd
  clear hx hy hS hd
  go_enter Try.func30, Try.ntmps30
  go_wp2_with fail
  refine (dvalid_is _ true H0.out.db.rs H0.out.db.rm (fun _ h => h) hm1 hm2 H.out).mono ?_
  rintro e w1 ⟨rfl, hb1⟩
  have H1 := Lib.hid (H0.out.call hb1)
  have k0 := H1.out.db.c0
  have k1 := H1.out.db.c1
  have k2 := H1.out.db.c2
  have hlb := H1.out.zb.lt
  clear hb1 H0
  go_wp2_with fail
  refine (exchange_ok A1 A2 c1 c2 sg mt L w1 (· < w1.heap.size) H1.out.db.rs H1.out.db.rm (fun _ h => h) HDD.out).mono ?_
  rintro e w2 ⟨v1, v2, q, r, rfl, him, hF, hb2⟩
  have H2 := Lib.hid (H1.out.call hb2)
  have HIM := Lib.hid him
  have y0 := H2.out.zb.z0
  have y1 := H2.out.zb.z1
  have y2 := H2.out.zb.z2
  have g0 := H2.out.zb.f0
  have g1 := H2.out.zb.f1
  have g2 := H2.out.zb.f2
  have hlb2 := H2.out.zb.lt
  obtain ⟨a1, d1, rfl, -, -, -⟩ := hF.os.shape
  obtain ⟨a2, d2, rfl, -, -, -⟩ := hF.om.shape
  obtain ⟨n1, hn1⟩ : ∃ n, q.length = n := ⟨_, rfl⟩
  obtain ⟨n2, hn2⟩ : ∃ n, r.length = n := ⟨_, rfl⟩
  rw [hn1, hn2] at hF ⊢
  have HEND := Lib.hid (H1.out.fin hb2 hF hlb rfl (.slice a1 n1 d1) (.slice a2 n2 d2) (.int .i64 L))
  clear hF hb2 him H1 k0 k1 k2 hn1 hn2
  go_wp2_with fail
  refine bodyPost_ret (v := .tuple #[.agg #[.slice a1 n1 d1, .slice a2 n2 d2, .int .i64 L], .int .i64 0]) (by simp [results, Try.results30, go_sem, y0, y1, y2]) rfl ?_
  exact ⟨_, _, _, _, rfl, HIM.out, HEND.out.1, HEND.out.2⟩
end
end Go.Proofs.Ytaghemilihaiaaa

