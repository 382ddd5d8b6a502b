/-
  The law DiagramValid, walked: the call returns true and writes nothing that was there.
-/
import Derived.Test.YtkanpcdjhaepjaaCopy
import Derived.Test.YtkanpcdjhaepjaaDEqual
import Derived.Test.YtkanpcdjhaepjaaRValid
import Derived.Deep.RegionHeld3
namespace Go.Proofs.Ytkanpcdjhaepjaa
open Go.RowKit

/-- the two diagrams that came in, the own copy that is written, and its clone -/
structure VSt (w0 w : World) (A1 A2 B1 B2 : Option Addr) (c1 c2 d1 d2 : Nat) (sg mt : List Int) (L : Int) (sg' mt' : List Int) (L' : Int) (bo : Nat) (X Y : Option Addr) (x y : Nat) (p q : List Int) (bc Bc : Nat) (U V : Option Addr) (u v : Nat) : Prop where
  ka : KBox w w0.heap.size (w0.heap.size + 2) A1 A2 c1 c2 sg mt L
  kb : KBox w (w0.heap.size + 1) (w0.heap.size + 2) B1 B2 d1 d2 sg' mt' L'
  o0 : w.cell? ⟨bo, 0, none⟩ = some (.slice X sg.length x)
  o1 : w.cell? ⟨bo, 1, none⟩ = some (.slice Y mt.length y)
  o2 : w.cell? ⟨bo, 2, none⟩ = some (.int .i64 L)
  rx : OI w (w0.heap.size + 2) (.slice X sg.length x) p
  ry : OI w (w0.heap.size + 2) (.slice Y mt.length y) q
  lp : p.length = sg.length
  lq : q.length = mt.length
  xb : ∀ g, X = some ⟨g, 0, none⟩ → g < bo ∧ Y ≠ some ⟨g, 0, none⟩
  yb : ∀ g, Y = some ⟨g, 0, none⟩ → g < bo ∧ X ≠ some ⟨g, 0, none⟩
  e0 : w.cell? ⟨bc, 0, none⟩ = some (.slice U sg.length u)
  e1 : w.cell? ⟨bc, 1, none⟩ = some (.slice V mt.length v)
  e2 : w.cell? ⟨bc, 2, none⟩ = some (.int .i64 L)
  fr : Fresh w Bc (.slice U sg.length u) (.slice V mt.length v) sg mt
  bb : bo < Bc ∧ Bc ≤ bc ∧ bc < w.heap.size
  bl : Below w0.heap.size w0 w
section
variable {w0 w w' : World} {A1 A2 B1 B2 X Y U V : Option Addr} {c1 c2 d1 d2 bo x y bc Bc u v : Nat} {sg mt sg' mt' p q : List Int} {L L' : Int}
theorem VSt.below (h : VSt w0 w A1 A2 B1 B2 c1 c2 d1 d2 sg mt L sg' mt' L' bo X Y x y p q bc Bc U V u v) (hb : Below w.heap.size w w') : VSt w0 w' A1 A2 B1 B2 c1 c2 d1 d2 sg mt L sg' mt' L' bo X Y x y p q bc Bc U V u v := by
  have hk : ∀ {a v}, w.cell? a = some v → w'.cell? a = some v := fun hc => (hb.cell (World.block_lt_of_cell? w _ hc)).trans hc
  exact ⟨h.ka.call hb, h.kb.call hb, hk h.o0, hk h.o1, hk h.o2, h.rx.below hb (Nat.le_refl _), h.ry.below hb (Nat.le_refl _), h.lp, h.lq, h.xb, h.yb, hk h.e0, hk h.e1, hk h.e2, h.fr.below hb (Nat.le_refl _),
    ⟨h.bb.1, h.bb.2.1, Nat.lt_of_lt_of_le h.bb.2.2 hb.size⟩, h.bl.trans (hb.mono h.bl.size)⟩
theorem VSt.storeY {g : Nat} (h : VSt w0 w A1 A2 B1 B2 c1 c2 d1 d2 sg mt L sg' mt' L' bo X (some ⟨g, 0, none⟩) x y p q bc Bc U V u v) (hg : w0.heap.size + 2 ≤ g) (k : Nat) (z : Int) :
    VSt w0 (w.setCell ⟨g, k, none⟩ (.int .i64 z)) A1 A2 B1 B2 c1 c2 d1 d2 sg mt L sg' mt' L' bo X (some ⟨g, 0, none⟩) x y p (q.set k z) bc Bc U V u v := by
  have hgb := (h.yb g rfl).1
  have hbb := h.bb
  have hc : ∀ b, b ≠ g → (w.setCell ⟨g, k, none⟩ (.int .i64 z)).heap[b]? = w.heap[b]? := fun b hb => Below.heap_setCell w _ _ b hb
  have hk : ∀ {b o v}, b ≠ g → w.cell? ⟨b, o, none⟩ = some v → (w.setCell ⟨g, k, none⟩ (.int .i64 z)).cell? ⟨b, o, none⟩ = some v := fun {b o v} hb h => (World.cell?_of_block (a := ⟨b, o, none⟩) (hc b hb)).trans h
  have ho := h.ry
  rw [← h.lq] at ho
  have h2 := OR.stored (k := k) ho z
  rw [List.length_set, h.lq] at h2
  exact ⟨h.ka.store hg _, h.kb.store hg _, hk (by omega) h.o0, hk (by omega) h.o1, hk (by omega) h.o2, h.rx.keep (fun b hb => hc b (fun e => by
      subst e
      rcases X with _ | ⟨xb, xo, xs⟩
      · simp [Value.ownBlock] at hb
      · simp [Value.ownBlock] at hb
        subst hb
        obtain ⟨-, hh⟩ := h.rx
        rcases hh with ⟨e', _⟩ | ⟨g', c', cur, e', _⟩
        · cases e'
        · injection e' with e' _ _
          injection e' with e'
          injection e' with e1 e2 e3
          subst e1 e2 e3
          exact (h.yb _ rfl).2 rfl)), h2, h.lp, by rw [List.length_set]; exact h.lq, h.xb, h.yb, hk (by omega) h.e0, hk (by omega) h.e1, hk (by omega) h.e2,
    ⟨h.fr.os.keep (fun b hb => hc b (by have := (h.fr.os.lt b hb).1; omega)), h.fr.om.keep (fun b hb => hc b (by have := (h.fr.om.lt b hb).1; omega)), h.fr.ne⟩, by simpa using hbb, h.bl.setCell (by show w0.heap.size ≤ g; omega) _⟩
theorem VSt.storeX {g : Nat} (h : VSt w0 w A1 A2 B1 B2 c1 c2 d1 d2 sg mt L sg' mt' L' bo (some ⟨g, 0, none⟩) Y x y p q bc Bc U V u v) (hg : w0.heap.size + 2 ≤ g) (k : Nat) (z : Int) :
    VSt w0 (w.setCell ⟨g, k, none⟩ (.int .i64 z)) A1 A2 B1 B2 c1 c2 d1 d2 sg mt L sg' mt' L' bo (some ⟨g, 0, none⟩) Y x y (p.set k z) q bc Bc U V u v := by
  have hgb := (h.xb g rfl).1
  have hbb := h.bb
  have hc : ∀ b, b ≠ g → (w.setCell ⟨g, k, none⟩ (.int .i64 z)).heap[b]? = w.heap[b]? := fun b hb => Below.heap_setCell w _ _ b hb
  have hk : ∀ {b o v}, b ≠ g → w.cell? ⟨b, o, none⟩ = some v → (w.setCell ⟨g, k, none⟩ (.int .i64 z)).cell? ⟨b, o, none⟩ = some v := fun {b o v} hb h => (World.cell?_of_block (a := ⟨b, o, none⟩) (hc b hb)).trans h
  have ho := h.rx
  rw [← h.lp] at ho
  have h2 := OR.stored (k := k) ho z
  rw [List.length_set, h.lp] at h2
  exact ⟨h.ka.store hg _, h.kb.store hg _, hk (by omega) h.o0, hk (by omega) h.o1, hk (by omega) h.o2, h2, h.ry.keep (fun b hb => hc b (fun e => by
      subst e
      rcases Y with _ | ⟨xb, xo, xs⟩
      · simp [Value.ownBlock] at hb
      · simp [Value.ownBlock] at hb
        subst hb
        obtain ⟨-, hh⟩ := h.ry
        rcases hh with ⟨e', _⟩ | ⟨g', c', cur, e', _⟩
        · cases e'
        · injection e' with e' _ _
          injection e' with e'
          injection e' with e1 e2 e3
          subst e1 e2 e3
          exact (h.xb _ rfl).2 rfl)), by rw [List.length_set]; exact h.lp, h.lq, h.xb, h.yb, hk (by omega) h.e0, hk (by omega) h.e1, hk (by omega) h.e2,
    ⟨h.fr.os.keep (fun b hb => hc b (by have := (h.fr.os.lt b hb).1; omega)), h.fr.om.keep (fun b hb => hc b (by have := (h.fr.om.lt b hb).1; omega)), h.fr.ne⟩, by simpa using hbb, h.bl.setCell (by show w0.heap.size ≤ g; omega) _⟩
end

/-- a fresh row reads -/
theorem oi_ri {w : World} {B n c : Nat} {X : Option Addr} {xs : List Int} (h : OI w B (.slice X n c) xs) : RI w (· < w.heap.size) X xs := by
  obtain ⟨A, c', e, -, -, hr⟩ := h.reads
  injection e with e1 _ _
  subst e1
  exact hr.imp fun b hb => hb.2
section
variable {w0 w w' : World} {A1 A2 B1 B2 X Y U V : Option Addr} {c1 c2 d1 d2 bo x y bc Bc u v : Nat} {sg mt sg' mt' p q : List Int} {L L' : Int}
  (h : Hid (VSt w0 w A1 A2 B1 B2 c1 c2 d1 d2 sg mt L sg' mt' L' bo X Y x y p q bc Bc U V u v)) (hl : Hid (sg.length ≤ 1000 ∧ mt.length ≤ 1000)) (hl' : Hid (sg'.length ≤ 1000 ∧ mt'.length ≤ 1000))
include h hl
theorem vValid {r : Bool} (hr : Hid (decide (IsD sg mt L) = r)) : Calls Try.prog 19 #[.agg #[.slice A1 sg.length c1, .slice A2 mt.length c2, .int .i64 L]] w fun e w' => e = .returned (.bool r) ∧ Below w.heap.size w w' :=
  dvalid_is (· < w.heap.size) r h.out.ka.db.rs h.out.ka.db.rm (fun _ h => h) (by have := hl.out.1; unfold maxLen; omega) (by have := hl.out.2; unfold maxLen; omega) hr.out
theorem vRValid {r : Bool} (hr : Hid (decide (IsD sg mt L) = r)) : Calls Try.prog 13 #[.agg #[.slice A1 sg.length c1, .slice A2 mt.length c2, .int .i64 L]] w fun e w' => e = .returned (.bool r) ∧ Below w.heap.size w w' :=
  rvalid_is (· < w.heap.size) r h.out.ka.db.rs h.out.ka.db.rm (fun _ h => h) (by have := hl.out.1; unfold maxLen; omega) (by have := hl.out.2; unfold maxLen; omega) hr.out
theorem vEqAA : Calls Try.prog 34 #[.agg #[.slice A1 sg.length c1, .slice A2 mt.length c2, .int .i64 L], .agg #[.slice A1 sg.length c1, .slice A2 mt.length c2, .int .i64 L]] w fun e w' => e = .returned (.bool true) ∧ Below w.heap.size w w' := by
  have l1 := hl.out.1
  have l2 := hl.out.2
  have := dequal_any A1 A2 A1 A2 c1 c2 c1 c2 sg mt sg mt L L w (· < w.heap.size) h.out.ka.db.rs h.out.ka.db.rm h.out.ka.db.rs h.out.ka.db.rm (fun _ h => h) (by unfold maxLen; omega) (by unfold maxLen; omega) (by unfold maxLen; omega) (by unfold maxLen; omega)
  rw [show eqD sg mt L sg mt L = true by simp [eqD]] at this
  exact this
theorem vREqCA : Calls Try.prog 35 #[.agg #[.slice U sg.length u, .slice V mt.length v, .int .i64 L], .agg #[.slice A1 sg.length c1, .slice A2 mt.length c2, .int .i64 L]] w fun e w' => e = .returned (.bool true) ∧ Below w.heap.size w w' := by
  have l1 := hl.out.1
  have l2 := hl.out.2
  have := requal_any U V A1 A2 u v c1 c2 sg mt sg mt L L w (· < w.heap.size) (oi_ri h.out.fr.os) (oi_ri h.out.fr.om) h.out.ka.db.rs h.out.ka.db.rm (fun _ h => h) (by unfold maxLen; omega) (by unfold maxLen; omega) (by unfold maxLen; omega) (by unfold maxLen; omega)
  rw [show eqD sg mt L sg mt L = true by simp [eqD]] at this
  exact this
include hl'
theorem vEqAB {r : Bool} (hr : Hid (eqD sg mt L sg' mt' L' = r)) : Calls Try.prog 34 #[.agg #[.slice A1 sg.length c1, .slice A2 mt.length c2, .int .i64 L], .agg #[.slice B1 sg'.length d1, .slice B2 mt'.length d2, .int .i64 L']] w fun e w' => e = .returned (.bool r) ∧ Below w.heap.size w w' := by
  have l1 := hl.out.1
  have l2 := hl.out.2
  have l3 := hl'.out.1
  have l4 := hl'.out.2
  rw [← hr.out]
  exact dequal_any A1 A2 B1 B2 c1 c2 d1 d2 sg mt sg' mt' L L' w (· < w.heap.size) h.out.ka.db.rs h.out.ka.db.rm h.out.kb.db.rs h.out.kb.db.rm (fun _ h => h) (by unfold maxLen; omega) (by unfold maxLen; omega) (by unfold maxLen; omega) (by unfold maxLen; omega)
theorem vREqAB {r : Bool} (hr : Hid (eqD sg mt L sg' mt' L' = r)) : Calls Try.prog 35 #[.agg #[.slice A1 sg.length c1, .slice A2 mt.length c2, .int .i64 L], .agg #[.slice B1 sg'.length d1, .slice B2 mt'.length d2, .int .i64 L']] w fun e w' => e = .returned (.bool r) ∧ Below w.heap.size w w' := by
  have l1 := hl.out.1
  have l2 := hl.out.2
  have l3 := hl'.out.1
  have l4 := hl'.out.2
  rw [← hr.out]
  exact requal_any A1 A2 B1 B2 c1 c2 d1 d2 sg mt sg' mt' L L' w (· < w.heap.size) h.out.ka.db.rs h.out.ka.db.rm h.out.kb.db.rs h.out.kb.db.rm (fun _ h => h) (by unfold maxLen; omega) (by unfold maxLen; omega) (by unfold maxLen; omega) (by unfold maxLen; omega)
end
theorem vEqCO {w0 w : World} {A1 A2 B1 B2 X Y U V : Option Addr} {c1 c2 d1 d2 bo x y bc Bc u v : Nat} {sg mt sg' mt' : List Int} {L L' : Int} (h : Hid (VSt w0 w A1 A2 B1 B2 c1 c2 d1 d2 sg mt L sg' mt' L' bo X Y x y sg mt bc Bc U V u v)) (hl : Hid (sg.length ≤ 1000 ∧ mt.length ≤ 1000)) :
    Calls Try.prog 34 #[.agg #[.slice U sg.length u, .slice V mt.length v, .int .i64 L], .agg #[.slice X sg.length x, .slice Y mt.length y, .int .i64 L]] w fun e w' => e = .returned (.bool true) ∧ Below w.heap.size w w' := by
  have l1 := hl.out.1
  have l2 := hl.out.2
  have := dequal_any U V X Y u v x y sg mt sg mt L L w (· < w.heap.size) (oi_ri h.out.fr.os) (oi_ri h.out.fr.om) (oi_ri h.out.rx) (oi_ri h.out.ry) (fun _ h => h) (by unfold maxLen; omega) (by unfold maxLen; omega) (by unfold maxLen; omega) (by unfold maxLen; omega)
  rw [show eqD sg mt L sg mt L = true by simp [eqD]] at this
  exact this
theorem keepV {w0 w w' : World} {A1 A2 B1 B2 X Y U V : Option Addr} {c1 c2 d1 d2 bo x y bc Bc u v : Nat} {sg mt sg' mt' p q : List Int} {L L' : Int} {v0 v1 v2 v3 v4 v5 v6 v7 v8 : Value} {a0 a1 a2 a3 a4 a5 a6 a7 a8 : Addr}
    (h : Hid (VSt w0 w A1 A2 B1 B2 c1 c2 d1 d2 sg mt L sg' mt' L' bo X Y x y p q bc Bc U V u v) ∧ w.cell? a0 = some v0 ∧ w.cell? a1 = some v1 ∧ w.cell? a2 = some v2 ∧ w.cell? a3 = some v3 ∧ w.cell? a4 = some v4 ∧ w.cell? a5 = some v5 ∧ w.cell? a6 = some v6 ∧ w.cell? a7 = some v7 ∧ w.cell? a8 = some v8) (hb : Below w.heap.size w w') :
    Hid (VSt w0 w' A1 A2 B1 B2 c1 c2 d1 d2 sg mt L sg' mt' L' bo X Y x y p q bc Bc U V u v) ∧ w'.cell? a0 = some v0 ∧ w'.cell? a1 = some v1 ∧ w'.cell? a2 = some v2 ∧ w'.cell? a3 = some v3 ∧ w'.cell? a4 = some v4 ∧ w'.cell? a5 = some v5 ∧ w'.cell? a6 = some v6 ∧ w'.cell? a7 = some v7 ∧ w'.cell? a8 = some v8 := by
  obtain ⟨h, h0, h1, h2, h3, h4, h5, h6, h7, h8⟩ := h
  have hk : ∀ {a v}, w.cell? a = some v → w'.cell? a = some v := fun hc => (hb.cell (World.block_lt_of_cell? w _ hc)).trans hc
  exact ⟨Lib.hid (h.out.below hb), hk h0, hk h1, hk h2, hk h3, hk h4, hk h5, hk h6, hk h7, hk h8⟩

/-- the two boxes -/
structure ABSt (w0 w : World) (A1 A2 B1 B2 : Option Addr) (c1 c2 d1 d2 : Nat) (sg mt : List Int) (L : Int) (sg' mt' : List Int) (L' : Int) : Prop where
  ka : KBox w w0.heap.size (w0.heap.size + 2) A1 A2 c1 c2 sg mt L
  kb : KBox w (w0.heap.size + 1) (w0.heap.size + 2) B1 B2 d1 d2 sg' mt' L'
  bl : Below w0.heap.size w0 w
theorem ABSt.call {w0 w w' : World} {A1 A2 B1 B2 : Option Addr} {c1 c2 d1 d2 : Nat} {sg mt sg' mt' : List Int} {L L' : Int} (h : ABSt w0 w A1 A2 B1 B2 c1 c2 d1 d2 sg mt L sg' mt' L') (hb : Below w.heap.size w w') : ABSt w0 w' A1 A2 B1 B2 c1 c2 d1 d2 sg mt L sg' mt' L' :=
  ⟨h.ka.call hb, h.kb.call hb, h.bl.trans (hb.mono h.bl.size)⟩
theorem ABSt.start {w : World} {A1 A2 B1 B2 : Option Addr} {c1 c2 d1 d2 : Nat} {sg mt sg' mt' : List Int} {L L' : Int} (h1 : RI w (· < w.heap.size) A1 sg) (h2 : RI w (· < w.heap.size) A2 mt) (h3 : RI w (· < w.heap.size) B1 sg') (h4 : RI w (· < w.heap.size) B2 mt') :
    ABSt w ((w.alloc (.cells #[.slice A1 sg.length c1, .slice A2 mt.length c2, .int .i64 L] 24)).alloc (.cells #[.slice B1 sg'.length d1, .slice B2 mt'.length d2, .int .i64 L'] 24)) A1 A2 B1 B2 c1 c2 d1 d2 sg mt L sg' mt' L' := by
  obtain ⟨k1, k2, k3⟩ := two_boxes (c1 := c1) (c2 := c2) (d1 := d1) (d2 := d2) (L := L) (L' := L') (· < w.heap.size) h1 h2 h3 h4 (fun _ h => h)
  have hs : ((w.alloc (.cells #[.slice A1 sg.length c1, .slice A2 mt.length c2, .int .i64 L] 24)).alloc (.cells #[.slice B1 sg'.length d1, .slice B2 mt'.length d2, .int .i64 L'] 24)).heap.size = w.heap.size + 2 := by simp
  have l := fun {A : Option Addr} {xs : List Int} (h : RI w (· < w.heap.size) A xs) => (h.keep (w' := (w.alloc (.cells #[.slice A1 sg.length c1, .slice A2 mt.length c2, .int .i64 L] 24)).alloc (.cells #[.slice B1 sg'.length d1, .slice B2 mt'.length d2, .int .i64 L'] 24)) fun b hb => k3.block b hb).imp (T := (· < w.heap.size + 2)) fun b (hb : b < w.heap.size) => by omega
  exact ⟨⟨k1.c0, k1.c1, k1.c2, by omega, by omega, l h1, l h2⟩, ⟨k2.c0, k2.c1, k2.c2, by omega, by omega, l h3, l h4⟩, k3⟩

section
variable (A1 A2 : Option Addr) (c1 c2 : Nat) (sg mt : List Int) (L : Int) (B1 B2 : Option Addr) (d1 d2 : Nat) (sg' mt' : List Int) (L' : Int) (w : World) (hd : DArg w A1 A2 sg mt L) (hd' : DArg w B1 B2 sg' mt' L')
include hd hd'

set_option maxHeartbeats 2000000 in
theorem vld_great1 (hg : 70 < sg.length ∨ 300 < mt.length) :
    Calls Try.prog 8 #[.agg #[.slice A1 sg.length c1, .slice A2 mt.length c2, .int .i64 L], .agg #[.slice B1 sg'.length d1, .slice B2 mt'.length d2, .int .i64 L']] w fun e w' => e = .returned (.bool true) ∧ Below w.heap.size w w' := by
  have HA := Lib.hid (ABSt.start (c1 := c1) (c2 := c2) (d1 := d1) (d2 := d2) (L := L) (L' := L') hd.rs hd.rm hd'.rs hd'.rm)
  have HG := Lib.hid hg
  clear hd hd' hg
  go_enter Try.func8, Try.ntmps8
  go_wp2_with fail
  generalize ((w.alloc (.cells #[.slice A1 sg.length c1, .slice A2 mt.length c2, .int .i64 L] 24)).alloc (.cells #[.slice B1 sg'.length d1, .slice B2 mt'.length d2, .int .i64 L'] 24)) = W at *
  refine (awake_any _).mono ?_
  rintro e w1 ⟨rfl, hb1⟩
  have HA1 := Lib.hid (HA.out.call hb1)
  clear hb1 HA
  have k0 := HA1.out.ka.c0
  have k1 := HA1.out.ka.c1
  have k2 := HA1.out.ka.c2
  go_wp2_with fail
  refine (great_yes A1 A2 c1 c2 sg mt L w1 HG.out).mono ?_
  rintro e w2 ⟨rfl, hb2⟩
  have HA2 := Lib.hid (HA1.out.call hb2)
  clear hb2 k0 k1 k2
  go_wp2_with fail
  go_ret
  exact ⟨rfl, HA2.out.bl⟩
set_option maxHeartbeats 2000000 in
theorem vld_great2 (hg1 : ¬ 70 < sg.length) (hg2 : ¬ 300 < mt.length) (hg : 70 < sg'.length ∨ 300 < mt'.length) :
    Calls Try.prog 8 #[.agg #[.slice A1 sg.length c1, .slice A2 mt.length c2, .int .i64 L], .agg #[.slice B1 sg'.length d1, .slice B2 mt'.length d2, .int .i64 L']] w fun e w' => e = .returned (.bool true) ∧ Below w.heap.size w w' := by
  have HA := Lib.hid (ABSt.start (c1 := c1) (c2 := c2) (d1 := d1) (d2 := d2) (L := L) (L' := L') hd.rs hd.rm hd'.rs hd'.rm)
  have HG1 := Lib.hid hg1
  have HG2 := Lib.hid hg2
  have HG := Lib.hid hg
  clear hd hd' hg hg1 hg2
  go_enter Try.func8, Try.ntmps8
  go_wp2_with fail
  generalize ((w.alloc (.cells #[.slice A1 sg.length c1, .slice A2 mt.length c2, .int .i64 L] 24)).alloc (.cells #[.slice B1 sg'.length d1, .slice B2 mt'.length d2, .int .i64 L'] 24)) = W at *
  refine (awake_any _).mono ?_
  rintro e w1 ⟨rfl, hb1⟩
  have HA1 := Lib.hid (HA.out.call hb1)
  clear hb1 HA
  have k0 := HA1.out.ka.c0
  have k1 := HA1.out.ka.c1
  have k2 := HA1.out.ka.c2
  go_wp2_with fail
  refine (great_no A1 A2 c1 c2 sg mt L w1 HG1.out HG2.out).mono ?_
  rintro e w2 ⟨rfl, hb2⟩
  have HA2 := Lib.hid (HA1.out.call hb2)
  clear hb2 k0 k1 k2
  have k0 := HA2.out.kb.c0
  have k1 := HA2.out.kb.c1
  have k2 := HA2.out.kb.c2
  go_wp2_with fail
  refine (great_yes B1 B2 d1 d2 sg' mt' L' w2 HG.out).mono ?_
  rintro e w3 ⟨rfl, hb3⟩
  have HA3 := Lib.hid (HA2.out.call hb3)
  clear hb3 k0 k1 k2
  go_wp2_with fail
  go_ret
  exact ⟨rfl, HA3.out.bl⟩

set_option maxRecDepth 100000 in
set_option maxHeartbeats 8000000 in
theorem vld_small (hg1 : ¬ 70 < sg.length) (hg2 : ¬ 300 < mt.length) (hg3 : ¬ 70 < sg'.length) (hg4 : ¬ 300 < mt'.length) :
    Calls Try.prog 8 #[.agg #[.slice A1 sg.length c1, .slice A2 mt.length c2, .int .i64 L], .agg #[.slice B1 sg'.length d1, .slice B2 mt'.length d2, .int .i64 L']] w fun e w' => e = .returned (.bool true) ∧ Below w.heap.size w w' := by
  have HA := Lib.hid (ABSt.start (c1 := c1) (c2 := c2) (d1 := d1) (d2 := d2) (L := L) (L' := L') hd.rs hd.rm hd'.rs hd'.rm)
  have HG1 := Lib.hid hg1
  have HG2 := Lib.hid hg2
  have HG3 := Lib.hid hg3
  have HG4 := Lib.hid hg4
  have hsl : sg.length ≤ 70 := by omega
  have hml : mt.length ≤ 300 := by omega
  have HL := Lib.hid (show sg.length ≤ 1000 ∧ mt.length ≤ 1000 by omega)
  have HL' := Lib.hid (show sg'.length ≤ 1000 ∧ mt'.length ≤ 1000 by omega)
  clear hd hd' hg1 hg2 hg3 hg4
  go_enter Try.func8, Try.ntmps8
  go_wp2_with fail
  generalize ((w.alloc (.cells #[.slice A1 sg.length c1, .slice A2 mt.length c2, .int .i64 L] 24)).alloc (.cells #[.slice B1 sg'.length d1, .slice B2 mt'.length d2, .int .i64 L'] 24)) = W at *
  refine (awake_any _).mono ?_
  rintro e w1 ⟨rfl, hb1⟩
  have HA1 := Lib.hid (HA.out.call hb1)
  clear hb1 HA
  have k0 := HA1.out.ka.c0
  have k1 := HA1.out.ka.c1
  have k2 := HA1.out.ka.c2
  go_wp2_with fail
  refine (great_no A1 A2 c1 c2 sg mt L w1 HG1.out HG2.out).mono ?_
  rintro e w2 ⟨rfl, hb2⟩
  have HA2 := Lib.hid (HA1.out.call hb2)
  clear hb2 k0 k1 k2 HA1
  have k0 := HA2.out.kb.c0
  have k1 := HA2.out.kb.c1
  have k2 := HA2.out.kb.c2
  go_wp2_with fail
  refine (great_no B1 B2 d1 d2 sg' mt' L' w2 HG3.out HG4.out).mono ?_
  rintro e w3 ⟨rfl, hb3⟩
  have HA3 := Lib.hid (HA2.out.call hb3)
  clear hb3 k0 k1 k2 HA2
  have k0 := HA3.out.ka.c0
  have k1 := HA3.out.ka.c1
  have k2 := HA3.out.ka.c2
  go_wp2_with fail
  refine (copy_any A1 A2 c1 c2 sg mt L w3 (· < w3.heap.size) HA3.out.ka.db.rs HA3.out.ka.db.rm (fun _ h => h) HL.out.1 HL.out.2).mono ?_
  rintro e w4 ⟨v1, v2, rfl, hf4, hb4⟩
  obtain ⟨X, x, rfl, -, -, -⟩ := hf4.os.shape
  obtain ⟨Y, y, rfl, -, -, -⟩ := hf4.om.shape
  have HA4 := Lib.hid (HA3.out.call hb4)
  have hb5 := (Below.refl w4.heap.size w4).alloc (Nat.le_refl _) (.cells #[.slice X sg.length x, .slice Y mt.length y, .int .i64 L] 24)
  have HA5 := Lib.hid (HA4.out.call hb5)
  have HF4 := Lib.hid hf4
  have HF5 := Lib.hid (hf4.below hb5 (Nat.le_refl _))
  obtain ⟨j0, j1, j2⟩ := box_cells (Below.refl (w4.heap.size + 1) (w4.alloc (.cells #[.slice X sg.length x, .slice Y mt.length y, .int .i64 L] 24)))
  have h3 := HA3.out.ka.le
  clear hb4 hb5 hf4 k0 k1 k2 HA3 HA4
  go_wp2_with fail
  have hbs : (w4.alloc (.cells #[.slice X sg.length x, .slice Y mt.length y, .int .i64 L] 24)).heap.size = w4.heap.size + 1 := by simp
  have HBS := Lib.hid hbs
  clear hbs
  generalize w4.alloc (.cells #[.slice X sg.length x, .slice Y mt.length y, .int .i64 L] 24) = w5 at *
  refine (dclone_any X Y x y sg mt L w5 (· < w5.heap.size) (oi_ri HF5.out.os) (oi_ri HF5.out.om) (fun _ h => h) (by omega) (by omega)).mono ?_
  rintro e w6 ⟨v1, v2, rfl, hf6, hb6⟩
  obtain ⟨U, u, rfl, -, -, -⟩ := hf6.os.shape
  obtain ⟨V, v, rfl, -, -, -⟩ := hf6.om.shape
  have hb7 := (Below.refl w6.heap.size w6).alloc (Nat.le_refl _) (.cells #[.slice U sg.length u, .slice V mt.length v, .int .i64 L] 24)
  have hb57 : Below w5.heap.size w5 (w6.alloc (.cells #[.slice U sg.length u, .slice V mt.length v, .int .i64 L] 24)) := hb6.trans (hb7.mono hb6.size)
  have HV7 : Hid (VSt w (w6.alloc (.cells #[.slice U sg.length u, .slice V mt.length v, .int .i64 L] 24)) A1 A2 B1 B2 c1 c2 d1 d2 sg mt L sg' mt' L' w4.heap.size X Y x y sg mt w6.heap.size w5.heap.size U V u v) := by
    obtain ⟨e0, e1, e2⟩ := box_cells (Below.refl (w6.heap.size + 1) (w6.alloc (.cells #[.slice U sg.length u, .slice V mt.length v, .int .i64 L] 24)))
    have hf7 := HF5.out.below hb57 (Nat.le_refl _)
    have hA := HA5.out.call hb57
    have hs := HBS.out
    have hs6 := hb6.size
    have l4 : w4.heap.size < w5.heap.size := by omega
    exact Lib.hid ⟨hA.ka, hA.kb, (hb57.cell (p := ⟨w4.heap.size, 0, none⟩) l4).trans j0, (hb57.cell (p := ⟨w4.heap.size, 1, none⟩) l4).trans j1, (hb57.cell (p := ⟨w4.heap.size, 2, none⟩) l4).trans j2, hf7.os.mono h3, hf7.om.mono h3, rfl, rfl,
      fun g hg => ⟨(HF4.out.os.lt g (by rw [hg]; rfl)).2, fun e => HF4.out.ne g (by rw [hg]; rfl) (by rw [e]; rfl)⟩,
      fun g hg => ⟨(HF4.out.om.lt g (by rw [hg]; rfl)).2, fun e => HF4.out.ne g (by rw [e]; rfl) (by rw [hg]; rfl)⟩,
      e0, e1, e2, hf6.below hb7 (Nat.le_refl _), ⟨l4, hs6, by simp⟩, hA.bl⟩
  obtain ⟨bo, hbo⟩ : ∃ b, w4.heap.size = b := ⟨_, rfl⟩
  clear hb6 hb7 hb57 hf6 j0 j1 j2 HF5 HF4 HA5 h3
  rw [hbo] at HV7 ⊢
  clear hbo
  have j0 := HV7.out.e0
  have j1 := HV7.out.e1
  have j2 := HV7.out.e2
  have n0 := HV7.out.o0
  have n1 := HV7.out.o1
  have n2 := HV7.out.o2
  go_wp2_with fail
  obtain ⟨bc, hbc⟩ : ∃ b, w6.heap.size = b := ⟨_, rfl⟩
  rw [hbc] at HV7 j0 j1 j2 ⊢
  clear hbc
  obtain ⟨Bc, hBc⟩ : ∃ b, w5.heap.size = b := ⟨_, rfl⟩
  rw [hBc] at HV7
  clear hBc HBS
  generalize w6.alloc (.cells #[.slice U sg.length u, .slice V mt.length v, .int .i64 L] 24) = w7 at *
  refine (vEqCO HV7 HL).mono ?_
  rintro e w8 ⟨rfl, hb8⟩
  have HV8 := Lib.hid (HV7.out.below hb8)
  clear hb8 HV7 j0 j1 j2 n0 n1 n2
  have n1 := HV8.out.o1
  go_wp2_with fail
  clear n1
  go_loopw [30] (fun i wr => ∃ (k : Nat) (q : List Int), k ≤ mt.length ∧ i = .int .i64 k ∧ Hid (VSt w wr A1 A2 B1 B2 c1 c2 d1 d2 sg mt L sg' mt' L' bo X Y x y sg q bc Bc U V u v)) (fun i _ => mt.length - (intOf i).toNat)
  case atStart => exact ⟨0, _, Nat.zero_le _, rfl, HV8⟩
  case round =>
    clear HV8
    obtain ⟨k, q, hk, rfl, HT⟩ := hrel
    by_cases hlt : k < mt.length
    · obtain ⟨g, c', hv, hgB, hgs, -, -, hcell, hfz⟩ := HT.out.ry.ints (by rw [HT.out.lq]; omega)
      injection hv with e1 _ _
      subst e1
      have k4 := hcell k (by rw [HT.out.lq]; exact hlt)
      have k5 := hfz k
      obtain ⟨z, hz⟩ : ∃ z, gi q k = z := ⟨_, rfl⟩
      rw [hz] at k4
      have HT' := Lib.hid (HT.out.storeY hgB k (wrap64 (z + 1)))
      have k1 := HT.out.o1
      clear hcell hfz hz hgB
      go_wp2_with fail
      go_roundw
      case rel => exact ⟨k + 1, _, by omega, by go_num, HT'⟩
      case measure => simp [intOf]; omega
    · have k0 := HT.out.o0
      go_wp2_with fail
      go_loopw [44] (fun i wr => ∃ (k : Nat) (p : List Int), k ≤ sg.length ∧ i = .int .i64 k ∧ Hid (VSt w wr A1 A2 B1 B2 c1 c2 d1 d2 sg mt L sg' mt' L' bo X Y x y p q bc Bc U V u v)) (fun i _ => sg.length - (intOf i).toNat)
      case atStart => exact ⟨0, _, Nat.zero_le _, rfl, HT⟩
      case round =>
        clear HT
        obtain ⟨k, p, hk, rfl, HT⟩ := hrel
        by_cases hlt2 : k < sg.length
        · obtain ⟨g, c', hv, hgB, hgs, -, -, hcell, hfz⟩ := HT.out.rx.ints (by rw [HT.out.lp]; omega)
          injection hv with e1 _ _
          subst e1
          have k4 := hcell k (by rw [HT.out.lp]; exact hlt2)
          have k5 := hfz k
          obtain ⟨z, hz⟩ : ∃ z, gi p k = z := ⟨_, rfl⟩
          rw [hz] at k4
          have HT' := Lib.hid (HT.out.storeX hgB k (wrap64 (z + 2)))
          have k0 := HT.out.o0
          clear hcell hfz hz hgB
          go_wp2_with fail
          go_roundw
          case rel => exact ⟨k + 1, _, by omega, by go_num, HT'⟩
          case measure => simp [intOf]; omega
        · obtain ⟨r, hr⟩ : ∃ r, decide (IsD sg mt L) = r := ⟨_, rfl⟩
          obtain ⟨s, hs⟩ : ∃ s, eqD sg mt L sg' mt' L' = s := ⟨_, rfl⟩
          have HR := Lib.hid hr
          have HSS := Lib.hid hs
          have k0 := HT.out.ka.c0
          have k1 := HT.out.ka.c1
          have k2 := HT.out.ka.c2
          have k3 := HT.out.kb.c0
          have k4 := HT.out.kb.c1
          have k5 := HT.out.kb.c2
          have k6 := HT.out.e0
          have k7 := HT.out.e1
          have k8 := HT.out.e2
          clear hr hs
          go_wp2_with fail
          go_region_held3 (fun w' => Hid (VSt w w' A1 A2 B1 B2 c1 c2 d1 d2 sg mt L sg' mt' L' bo X Y x y p q bc Bc U V u v) ∧ w'.cell? ⟨w.heap.size, 0, none⟩ = some (.slice A1 sg.length c1) ∧ w'.cell? ⟨w.heap.size, 1, none⟩ = some (.slice A2 mt.length c2) ∧ w'.cell? ⟨w.heap.size, 2, none⟩ = some (.int .i64 L) ∧ w'.cell? ⟨w.heap.size + 1, 0, none⟩ = some (.slice B1 sg'.length d1) ∧ w'.cell? ⟨w.heap.size + 1, 1, none⟩ = some (.slice B2 mt'.length d2) ∧ w'.cell? ⟨w.heap.size + 1, 2, none⟩ = some (.int .i64 L') ∧ w'.cell? ⟨bc, 0, none⟩ = some (.slice U sg.length u) ∧ w'.cell? ⟨bc, 1, none⟩ = some (.slice V mt.length v) ∧ w'.cell? ⟨bc, 2, none⟩ = some (.int .i64 L))
            (first | exact keepV ⟨HT, k0, k1, k2, k3, k4, k5, k6, k7, k8⟩ (Below.refl _ _).drew | exact keepV (by assumption) hr6 | exact keepV (by assumption) hr5 | exact keepV (by assumption) hr4 | exact keepV (by assumption) hr3 | exact keepV (by assumption) hr2 | exact keepV (by assumption) hr1)
            (first
              | (go_at_call 19; ((refine (vValid (by first | assumption | exact And.left (by assumption)) HL HR).mono ?_); rintro e9 wa1 ⟨rfl, hr1⟩))
              | (go_at_call 13; ((refine (vRValid (by first | assumption | exact And.left (by assumption)) HL HR).mono ?_); rintro e9 wa2 ⟨rfl, hr2⟩))
              | (go_at_call 34; (with_reducible (show Calls _ _ #[_, Value.agg #[Value.slice B1 _ _, _, _]] _ _)); ((refine (vEqAB (by first | assumption | exact And.left (by assumption)) HL HL' HSS).mono ?_); rintro e9 wa3 ⟨rfl, hr3⟩))
              | (go_at_call 35; (with_reducible (show Calls _ _ #[_, Value.agg #[Value.slice B1 _ _, _, _]] _ _)); ((refine (vREqAB (by first | assumption | exact And.left (by assumption)) HL HL' HSS).mono ?_); rintro e9 wa4 ⟨rfl, hr4⟩))
              | (go_at_call 34; (with_reducible (show Calls _ _ #[_, Value.agg #[Value.slice A1 _ _, _, _]] _ _)); ((refine (vEqAA (by first | assumption | exact And.left (by assumption)) HL).mono ?_); rintro e9 wa5 ⟨rfl, hr5⟩))
              | (go_at_call 35; (with_reducible (show Calls _ _ #[_, Value.agg #[Value.slice A1 _ _, _, _]] _ _)); ((refine (vREqCA (by first | assumption | exact And.left (by assumption)) HL).mono ?_); rintro e9 wa6 ⟨rfl, hr6⟩)))
          have HBF := (And.left (by assumption) : Hid (VSt w wa6 A1 A2 B1 B2 c1 c2 d1 d2 sg mt L sg' mt' L' bo X Y x y p q bc Bc U V u v))
          have HB9 := Lib.hid HBF.out.bl
          clear HBF hr1 hr2 hr3 hr4 hr5 hr6 k0 k1 k2 k3 k4 k5 k6 k7 k8
          go_wp2_with fail
          go_ret
          exact ⟨rfl, HB9.out⟩
end

theorem diagramValid_walk (A1 A2 : Option Addr) (c1 c2 : Nat) (sg mt : List Int) (L : Int) (B1 B2 : Option Addr) (d1 d2 : Nat) (sg' mt' : List Int) (L' : Int) (w : World) (hd : DArg w A1 A2 sg mt L) (hd' : DArg w B1 B2 sg' mt' L') :
    Calls Try.prog 8 #[.agg #[.slice A1 sg.length c1, .slice A2 mt.length c2, .int .i64 L], .agg #[.slice B1 sg'.length d1, .slice B2 mt'.length d2, .int .i64 L']] w fun e w' => e = .returned (.bool true) ∧ Below w.heap.size w w' := by
  by_cases hg : 70 < sg.length ∨ 300 < mt.length
  · exact vld_great1 A1 A2 c1 c2 sg mt L B1 B2 d1 d2 sg' mt' L' w hd hd' hg
  by_cases hg' : 70 < sg'.length ∨ 300 < mt'.length
  · exact vld_great2 A1 A2 c1 c2 sg mt L B1 B2 d1 d2 sg' mt' L' w hd hd' (by omega) (by omega) hg'
  · exact vld_small A1 A2 c1 c2 sg mt L B1 B2 d1 d2 sg' mt' L' w hd hd' (by omega) (by omega) (by omega) (by omega)
end Go.Proofs.Ytkanpcdjhaepjaa
