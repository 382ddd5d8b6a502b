/-
  Boxes of diagrams in memory of the call's own: what becomes of them behind calls and stores.
-/
import Derived.Test.YtkanpcdjhaepjaaDClone
import Derived.Test.YtkanpcdjhaepjaaLawBase
namespace Go.Proofs.Ytkanpcdjhaepjaa
open Go.RowKit

/-- a box of a diagram whose rows lie below the block M -/
structure KBox (w : World) (bd M : Nat) (A1 A2 : Option Addr) (c1 c2 : Nat) (sg mt : List Int) (L : Int) : Prop where
  c0 : w.cell? ⟨bd, 0, none⟩ = some (.slice A1 sg.length c1)
  c1 : w.cell? ⟨bd, 1, none⟩ = some (.slice A2 mt.length c2)
  c2 : w.cell? ⟨bd, 2, none⟩ = some (.int .i64 L)
  lt : bd < M
  le : M ≤ w.heap.size
  rs : RI w (· < M) A1 sg
  rm : RI w (· < M) A2 mt
section
variable {w w' : World} {bd M : Nat} {A1 A2 : Option Addr} {c1 c2 : Nat} {sg mt : List Int} {L : Int}
theorem KBox.below (h : KBox w bd M A1 A2 c1 c2 sg mt L) (hb : Below M w w') (hs : w.heap.size ≤ w'.heap.size) : KBox w' bd M A1 A2 c1 c2 sg mt L :=
  ⟨(hb.cell (p := ⟨bd, 0, none⟩) h.lt).trans h.c0, (hb.cell (p := ⟨bd, 1, none⟩) h.lt).trans h.c1, (hb.cell (p := ⟨bd, 2, none⟩) h.lt).trans h.c2, h.lt, Nat.le_trans h.le hs, h.rs.below hb, h.rm.below hb⟩
theorem KBox.call (h : KBox w bd M A1 A2 c1 c2 sg mt L) (hb : Below w.heap.size w w') : KBox w' bd M A1 A2 c1 c2 sg mt L := h.below (hb.mono h.le) hb.size
theorem KBox.alloc (h : KBox w bd M A1 A2 c1 c2 sg mt L) (o : Obj) : KBox (w.alloc o) bd M A1 A2 c1 c2 sg mt L := h.call ((Below.refl _ _).alloc (Nat.le_refl _) _)
theorem KBox.drew (h : KBox w bd M A1 A2 c1 c2 sg mt L) : KBox w.drew bd M A1 A2 c1 c2 sg mt L := h.call (Below.refl _ _).drew
theorem KBox.store (h : KBox w bd M A1 A2 c1 c2 sg mt L) {g k : Nat} (hg : M ≤ g) (v : Value) : KBox (w.setCell ⟨g, k, none⟩ v) bd M A1 A2 c1 c2 sg mt L :=
  h.below ((Below.refl M w).setCell hg _) (by simp)
theorem KBox.db (h : KBox w bd M A1 A2 c1 c2 sg mt L) : DBox w bd A1 A2 c1 c2 sg mt L :=
  ⟨h.c0, h.c1, h.c2, Nat.lt_of_lt_of_le h.lt h.le, h.rs.imp fun _ hb => Nat.lt_of_lt_of_le hb h.le, h.rm.imp fun _ hb => Nat.lt_of_lt_of_le hb h.le⟩
theorem KBox.new {S : Nat → Prop} {n m : Nat} (hn : sg.length = n) (hm : mt.length = m) (hx : RI w S A1 sg) (hy : RI w S A2 mt) (hS : ∀ b, S b → b < w.heap.size) :
    KBox (w.alloc (.cells #[.slice A1 n c1, .slice A2 m c2, .int .i64 L] 24)) w.heap.size (w.heap.size + 1) A1 A2 c1 c2 sg mt L := by
  subst hn hm
  obtain ⟨h0, h1, h2⟩ := box_cells (Below.refl (w.heap.size + 1) (w.alloc (.cells #[.slice A1 sg.length c1, .slice A2 mt.length c2, .int .i64 L] 24)))
  exact ⟨h0, h1, h2, by omega, by simp, (hx.keep fun b hb => Below.heap_alloc w _ b (hS b hb)).imp fun b hb => by have := hS b hb; omega,
    (hy.keep fun b hb => Below.heap_alloc w _ b (hS b hb)).imp fun b hb => by have := hS b hb; omega⟩
theorem RI.take {S : Nat → Prop} {A : Option Addr} {xs : List Int} (h : RI w S A xs) (k : Nat) : RI w S A (xs.take k) := fun hne => by
  have h0 : xs ≠ [] := by rintro rfl; exact hne (by simp)
  obtain ⟨b, off, e, hb, hc⟩ := h h0
  refine ⟨b, off, e, hb, fun j hj => ?_⟩
  rw [List.length_take] at hj
  rw [hc j (by omega)]
  simp only [gi, List.getD_eq_getElem?_getD]
  rw [List.getElem?_take_of_lt (by omega)]
theorem kvalid_no (h : KBox w bd M A1 A2 c1 c2 sg mt L) {n m : Nat} (hn : sg.length = n) (hm : mt.length = m) (hl : n ≤ 1000) (hl' : m ≤ 1000) (hno : ¬ IsD sg mt L) :
    Calls Try.prog 19 #[.agg #[.slice A1 n c1, .slice A2 m c2, .int .i64 L]] w fun e w' => e = .returned (.bool false) ∧ Below w.heap.size w w' := by
  subst hn hm
  exact dvalid_is (· < w.heap.size) false h.db.rs h.db.rm (fun _ h => h) (by unfold maxLen; omega) (by unfold maxLen; omega) (decide_eq_false hno)
theorem kbox_sign {B : Nat} (hf : Fresh w B (.slice A1 sg.length c1) (.slice A2 mt.length c2) sg mt) {c : Nat} (hc : c < sg.length) : ∃ g, A1 = some ⟨g, 0, none⟩ ∧ B ≤ g ∧ g < w.heap.size ∧
    (w.alloc (.cells #[.slice A1 sg.length c1, .slice A2 mt.length c2, .int .i64 L] 24)).cell? ⟨g, c, none⟩ = some (.int .i64 (gi sg c)) ∧
    (w.alloc (.cells #[.slice A1 sg.length c1, .slice A2 mt.length c2, .int .i64 L] 24)).frozen? ⟨g, c, none⟩ = false ∧
    ∀ y, KBox ((w.alloc (.cells #[.slice A1 sg.length c1, .slice A2 mt.length c2, .int .i64 L] 24)).setCell ⟨g, c, none⟩ (.int .i64 y)) w.heap.size (w.heap.size + 1) A1 A2 c1 c2 (sg.set c y) mt L := by
  obtain ⟨g, c', hv, h2, h3, h4, h5, h6, h7⟩ := hf.os.ints (by omega)
  injection hv with e1 _ e3
  subst e1 e3
  have ho := hf.os.alloc (.cells #[.slice (some ⟨g, 0, none⟩) sg.length c1, .slice A2 mt.length c2, .int .i64 L] 24)
  have hm : RI w (fun b => b ≠ g ∧ b < w.heap.size) A2 mt := fun hne => by
    obtain ⟨g2, c'', hv2, k2, k3, k4, k5, k6, k7⟩ := hf.om.ints (by
      rcases mt with _ | ⟨y, ys⟩
      · exact absurd rfl hne
      · simp)
    injection hv2 with e1 _ e3
    subst e1
    refine ⟨g2, 0, rfl, ⟨fun e => hf.ne g rfl (by subst e; rfl), k3⟩, fun k hk => by rw [Nat.zero_add]; exact k6 k hk⟩
  refine ⟨g, rfl, h2, h3, ?_, ?_, fun y => ?_⟩
  · have := (OR.ints_at ho (by omega)).2.2.2.2.1 c hc
    exact this
  · exact (OR.ints_at ho (by omega)).2.2.2.2.2 c
  · have hs := OR.stored (k := c) ho y
    have hsc := (OR.ints_at hs (by rw [List.length_set]; omega)).2.2.2.2.1
    have hbe : ∀ b, b ≠ g → ((w.alloc (.cells #[.slice (some ⟨g, 0, none⟩) sg.length c1, .slice A2 mt.length c2, .int .i64 L] 24)).setCell ⟨g, c, none⟩ (.int .i64 y)).heap[b]? = (w.alloc (.cells #[.slice (some ⟨g, 0, none⟩) sg.length c1, .slice A2 mt.length c2, .int .i64 L] 24)).heap[b]? := fun b hb => Below.heap_setCell _ _ _ b hb
    obtain ⟨b0, b1, b2⟩ := box_cells (Below.refl (w.heap.size + 1) (w.alloc (.cells #[.slice (some ⟨g, 0, none⟩) sg.length c1, .slice A2 mt.length c2, .int .i64 L] 24)))
    have hne : w.heap.size ≠ g := by omega
    refine ⟨?_, ?_, ?_, by omega, by simp, fun _ => ⟨g, 0, rfl, by omega, fun k hk => by rw [Nat.zero_add]; exact hsc k hk⟩, ?_⟩
    · rw [List.length_set]
      exact (World.cell?_of_block (a := ⟨w.heap.size, 0, none⟩) (hbe _ hne)).trans b0
    · exact (World.cell?_of_block (a := ⟨w.heap.size, 1, none⟩) (hbe _ hne)).trans b1
    · exact (World.cell?_of_block (a := ⟨w.heap.size, 2, none⟩) (hbe _ hne)).trans b2
    · exact (hm.keep fun b hb => by rw [hbe b hb.1, Below.heap_alloc w _ b hb.2]).imp fun b hb => by omega
end

end Go.Proofs.Ytkanpcdjhaepjaa
