/-
  The law DiagramInvariant, walked: the call returns true and writes nothing that was there.
-/
import Derived.Test.YtkanpcdjhaepjaaRen
import Derived.Test.YtkanpcdjhaepjaaInvM
import Derived.Test.YtkanpcdjhaepjaaKBox
import Derived.Test.YtkanpcdjhaepjaaDEqual
import Derived.Test.YtkanpcdjhaepjaaLengths
import Derived.Test.YtkanpcdjhaepjaaGraph
import Derived.Test.YtkanpcdjhaepjaaDiagramRenumbers
import Derived.Deep.RegionHeld3
namespace Go.Proofs.Ytkanpcdjhaepjaa
open Go.RowKit

/-- the diagram that came in, the order, the result, and the row of the way back -/
structure BSt (w0 w : World) (gp : Nat) (A1 A2 A3 : Option Addr) (c1 c2 : Nat) (sg mt xs : List Int) (L : Int) (bx Mx : Nat) (X Y : Option Addr) (d1 d2 : Nat) (sg' mt' : List Int) (p : List Int) : Prop where
  ns : NSt w0 w A1 A2 A3 c1 c2 sg mt xs L bx Mx X Y d1 d2 sg' mt'
  pr : PRow w0 w w0.heap.size gp sg.length p
  pl : p.length = sg.length
  g1 : w0.heap.size + 1 ≤ gp
  g2 : Mx ≤ gp
section
variable {w0 w w' : World} {gp : Nat} {A1 A2 A3 X Y : Option Addr} {c1 c2 c3 bx Mx d1 d2 : Nat} {sg mt xs sg' mt' p : List Int} {L : Int}
theorem BSt.store (h : BSt w0 w gp A1 A2 A3 c1 c2 sg mt xs L bx Mx X Y d1 d2 sg' mt' p) (k : Nat) (y : Int) : BSt w0 (w.setCell ⟨gp, k, none⟩ (.int .i64 y)) gp A1 A2 A3 c1 c2 sg mt xs L bx Mx X Y d1 d2 sg' mt' (p.set k y) := by
  have g1 := h.g1
  exact ⟨⟨h.ns.ko.store h.g1 _, h.ns.kx.store h.g2 _, h.ns.rx.keep fun b hb => Below.heap_setCell w _ _ b (by show b ≠ gp; omega)⟩, h.pr.store h.pl (by omega) y, by rw [List.length_set]; exact h.pl, h.g1, h.g2⟩

/-- the three boxes -/
structure ISt (w0 w : World) (A1 A2 : Option Addr) (c1 c2 : Nat) (sg mt : List Int) (L : Int) (bx Mx : Nat) (X1 X2 : Option Addr) (d1 d2 : Nat) (sg' mt' : List Int) (by_ My : Nat) (Y1 Y2 : Option Addr) (e1 e2 : Nat) : Prop where
  ko : KBox w w0.heap.size (w0.heap.size + 1) A1 A2 c1 c2 sg mt L
  kx : KBox w bx Mx X1 X2 d1 d2 sg' mt' L
  ky : KBox w by_ My Y1 Y2 e1 e2 sg mt L
  bl : Below w0.heap.size w0 w
theorem KBox.dvalid (h : KBox w bx Mx A1 A2 c1 c2 sg mt L) (hd : Hid (IsD sg mt L)) {n m : Nat} (hn : sg.length = n) (hm : mt.length = m) :
    Calls Try.prog 19 #[.agg #[.slice A1 n c1, .slice A2 m c2, .int .i64 L]] w fun e w' => e = .returned (.bool true) ∧ Below w.heap.size w w' := by
  subst hn hm
  have h1 := hd.out.1
  have h2 := hd.out.2.1
  exact dvalid_is (· < w.heap.size) true h.db.rs h.db.rm (fun _ h => h) (by unfold maxLen; omega) (by unfold maxLen; omega) (decide_eq_true hd.out)
theorem KBox.faces (h : KBox w bx Mx A1 A2 c1 c2 sg mt L) (hd : Hid (IsD sg mt L)) {n m : Nat} (hn : sg.length = n) (hm : mt.length = m) :
    Calls Try.prog 20 #[.agg #[.slice A1 n c1, .slice A2 m c2, .int .i64 L]] w fun e w' => ∃ A c, e = .returned (.slice A (rows (facesL mt)).length c) ∧ Hid (RL w' (· < w'.heap.size) A (rows (facesL mt))) ∧ Below w.heap.size w w' := by
  subst hn hm
  refine (faces_ok A1 A2 c1 c2 sg mt L w (· < w.heap.size) h.db.rs h.db.rm (fun _ h => h) hd.out).mono ?_
  rintro e w' ⟨v, rfl, hr, hb⟩
  obtain ⟨A, c, rfl, hl⟩ := hr.reads
  exact ⟨A, c, rfl, Lib.hid (hl.imp fun b hb => hb.2), hb⟩
theorem KBox.strands (h : KBox w bx Mx A1 A2 c1 c2 sg mt L) (hd : Hid (IsD sg mt L)) {n m : Nat} (hn : sg.length = n) (hm : mt.length = m) :
    Calls Try.prog 23 #[.agg #[.slice A1 n c1, .slice A2 m c2, .int .i64 L]] w fun e w' => ∃ A c, e = .returned (.slice A (rows (strandsL sg mt)).length c) ∧ Hid (RL w' (· < w'.heap.size) A (rows (strandsL sg mt))) ∧ Below w.heap.size w w' := by
  subst hn hm
  refine (strands_ok A1 A2 c1 c2 sg mt L w (· < w.heap.size) h.db.rs h.db.rm (fun _ h => h) hd.out).mono ?_
  rintro e w' ⟨v, rfl, hr, hb⟩
  obtain ⟨A, c, rfl, hl⟩ := hr.reads
  exact ⟨A, c, rfl, Lib.hid (hl.imp fun b hb => hb.2), hb⟩
theorem KBox.graph (h : KBox w bx Mx A1 A2 c1 c2 sg mt L) (hd : Hid (IsD sg mt L)) {n m : Nat} (hn : sg.length = n) (hm : mt.length = m) :
    Calls Try.prog 21 #[.agg #[.slice A1 n c1, .slice A2 m c2, .int .i64 L]] w fun e w' => ∃ A c, e = .returned (.slice A (rows (graphL mt n)).length c) ∧ Hid (RL w' (· < w'.heap.size) A (rows (graphL mt n))) ∧ Below w.heap.size w w' := by
  subst hn hm
  refine (graph_ok A1 A2 c1 c2 sg mt L w (· < w.heap.size) h.db.rs h.db.rm (fun _ h => h) hd.out).mono ?_
  rintro e w' ⟨v, rfl, hr, hb⟩
  obtain ⟨A, c, rfl, hl⟩ := hr.reads
  exact ⟨A, c, rfl, Lib.hid (hl.imp fun b hb => hb.2), hb⟩
theorem KBox.comps (h : KBox w bx Mx A1 A2 c1 c2 sg mt L) (hd : Hid (IsD sg mt L)) {n m q : Nat} (hn : sg.length = n) (hm : mt.length = m) (hq : (strandsL sg mt).length = q) :
    Calls Try.prog 25 #[.agg #[.slice A1 n c1, .slice A2 m c2, .int .i64 L]] w fun e w' => e = .returned (.int .i64 ((q : Int) + L)) ∧ Below w.heap.size w w' := by
  subst hn hm hq
  exact components_ok A1 A2 c1 c2 sg mt L w (· < w.heap.size) h.db.rs h.db.rm (fun _ h => h) hd.out
/-- two lists of rows, the first one read ahead of the call that made the second one -/
theorem lensT {A B : Option Addr} {c d : Nat} {w1 : World} {ls ms : List (List Nat)} (h1 : Hid (RL w1 (· < w1.heap.size) A (rows ls))) (hb : Below w1.heap.size w1 w) (h2 : Hid (RL w (· < w.heap.size) B (rows ms))) (hl : Hid (ls.length ≤ 1000 ∧ ms.length ≤ 1000)) (he : Hid (∀ l, lenN ls l = lenN ms l)) :
    Calls Try.prog 39 #[.slice A (rows ls).length c, .slice B (rows ms).length d] w fun e w' => e = .returned (.bool true) ∧ Below w.heap.size w w' := by
  have hlen : ∀ (ls : List (List Nat)) (x : Int), lenI (rows ls) x = if 0 ≤ x then (lenN ls x.toNat : Int) else 0 := by
    intro ls x
    unfold lenI lenN rows
    rw [List.countP_map]
    split
    · congr 1
      refine List.countP_congr fun r _ => ?_
      simp only [Function.comp, ints_length, decide_eq_true_eq]
      omega
    · have : ls.countP ((fun r : List Int => decide ((r.length : Int) = x)) ∘ ints) = 0 := by
        rw [List.countP_eq_zero]
        intro r _
        simp only [Function.comp, ints_length, decide_eq_true_eq]
        omega
      rw [this]; rfl
  refine lengths_true A B c d (rows ls) (rows ms) w ((h1.out.below hb).imp fun b hlt => Nat.lt_of_lt_of_le hlt hb.size) h2.out (by rw [rows_cycs_length]; exact hl.out.1) (by rw [rows_cycs_length]; exact hl.out.2) fun x => ?_
  rw [hlen, hlen]
  split
  · rw [he.out]
  · rfl
theorem KBox.equal {B1 B2 : Option Addr} {by_ My e1 e2 n m : Nat} (h : KBox w bx Mx A1 A2 c1 c2 sg mt L) (h2 : KBox w by_ My B1 B2 e1 e2 sg mt L) (hn : sg.length = n) (hm : mt.length = m) (hn' : n ≤ 1000) (hm' : m ≤ 1000) :
    Calls Try.prog 34 #[.agg #[.slice A1 n c1, .slice A2 m c2, .int .i64 L], .agg #[.slice B1 n e1, .slice B2 m e2, .int .i64 L]] w fun e w' => e = .returned (.bool true) ∧ Below w.heap.size w w' := by
  subst hn hm
  have := dequal_any A1 A2 B1 B2 c1 c2 e1 e2 sg mt sg mt L L w (· < w.heap.size) h.db.rs h.db.rm h2.db.rs h2.db.rm (fun _ h => h) (by unfold maxLen; omega) (by unfold maxLen; omega) (by unfold maxLen; omega) (by unfold maxLen; omega)
  rw [show eqD sg mt L sg mt L = true by simp [eqD]] at this
  exact this
def RenOkB (sg mt : List Int) (L : Int) (w : World) (e : Ending) (w' : World) : Prop := ∃ B1 B2 e1 e2, e = .returned (.tuple #[.agg #[.slice B1 sg.length e1, .slice B2 mt.length e2, .int .i64 L], .int .i64 0]) ∧ Fresh w' w.heap.size (.slice B1 sg.length e1) (.slice B2 mt.length e2) sg mt ∧ Below w.heap.size w w'
/-- the way back -/
theorem ren_back (h : KBox w bx Mx X Y d1 d2 (renS sg xs) (renM mt xs sg.length) L) {A : Option Addr} (hq : Hid (RI w (· < w.heap.size) A (backX xs sg.length))) (hd : Hid (IsD sg mt L)) (hP : Hid (PermI xs sg.length)) {n m : Nat} (hn : n = sg.length) (hm : m = 4 * sg.length) :
    Calls Try.prog 36 #[.agg #[.slice X n d1, .slice Y m d2, .int .i64 L], .slice A n c3] w (RenOkB sg mt L w) := by
  subst hn hm
  have hd' := ren_isD hd.out hP.out
  have hb := back_perm hP.out
  have := ren_ok X Y A d1 d2 c3 (renS sg xs) (renM mt xs sg.length) (backX xs sg.length) L w (· < w.heap.size) h.db.rs h.db.rm hq.out (fun _ h => h) hd' (by rw [renS_length]; exact hb)
  rw [renS_length, renM_length] at this
  refine this.mono ?_
  rintro e w' ⟨v1, v2, rfl, hf, hb'⟩
  obtain ⟨B1, e1, rfl, -, -, -⟩ := hf.os.shape
  obtain ⟨B2, e2, rfl, -, -, -⟩ := hf.om.shape
  rw [renS_length, renM_length, renS_length, back_S hP.out, back_M hd.out.2.2.2.2.2.1 hd.out.2.1 hP.out, ← hd.out.2.1] at hf
  rw [renS_length, renM_length, renS_length, ← hd.out.2.1]
  exact ⟨B1, B2, e1, e2, rfl, hf, hb'⟩
theorem keepI {v0 v1 v2 v3 v4 v5 v6 v7 v8 : Value} {a0 a1 a2 a3 a4 a5 a6 a7 a8 : Addr} {by_ My e1 e2 : Nat} {Y1 Y2 : Option Addr} (h : Hid (ISt w0 w A1 A2 c1 c2 sg mt L bx Mx X Y d1 d2 sg' mt' by_ My Y1 Y2 e1 e2) ∧ w.cell? a0 = some v0 ∧ w.cell? a1 = some v1 ∧ w.cell? a2 = some v2 ∧ w.cell? a3 = some v3 ∧ w.cell? a4 = some v4 ∧ w.cell? a5 = some v5 ∧ w.cell? a6 = some v6 ∧ w.cell? a7 = some v7 ∧ w.cell? a8 = some v8) (hb : Below w.heap.size w w') :
    Hid (ISt w0 w' A1 A2 c1 c2 sg mt L bx Mx X Y d1 d2 sg' mt' by_ My Y1 Y2 e1 e2) ∧ w'.cell? a0 = some v0 ∧ w'.cell? a1 = some v1 ∧ w'.cell? a2 = some v2 ∧ w'.cell? a3 = some v3 ∧ w'.cell? a4 = some v4 ∧ w'.cell? a5 = some v5 ∧ w'.cell? a6 = some v6 ∧ w'.cell? a7 = some v7 ∧ w'.cell? a8 = some v8 := by
  obtain ⟨h, h0, h1, h2, h3, h4, h5, h6, h7, h8⟩ := h
  have hk : ∀ {a v}, w.cell? a = some v → w'.cell? a = some v := fun hc => (hb.cell (World.block_lt_of_cell? w _ hc)).trans hc
  exact ⟨Lib.hid ⟨h.out.ko.call hb, h.out.kx.call hb, h.out.ky.call hb, h.out.bl.trans (hb.mono h.out.bl.size)⟩, hk h0, hk h1, hk h2, hk h3, hk h4, hk h5, hk h6, hk h7, hk h8⟩
end

section
variable {w0 w : World} {A1 A2 X Y Y1 Y2 : Option Addr} {c1 c2 bx Mx d1 d2 by_ My e1 e2 : Nat} {sg mt xs : List Int} {L : Int}
  (h : Hid (ISt w0 w A1 A2 c1 c2 sg mt L bx Mx X Y d1 d2 (renS sg xs) (renM mt xs sg.length) by_ My Y1 Y2 e1 e2)) (hd : Hid (IsD sg mt L)) (hd' : Hid (IsD (renS sg xs) (renM mt xs sg.length) L))
include h hd hd'
omit hd in
theorem validX : Calls Try.prog 19 #[.agg #[.slice X sg.length d1, .slice Y (4 * sg.length) d2, .int .i64 L]] w fun e w' => e = .returned (.bool true) ∧ Below w.heap.size w w' :=
  h.out.kx.dvalid hd' (renS_length _ _) (renM_length _ _ _)
omit hd' in
theorem equalYD : Calls Try.prog 34 #[.agg #[.slice Y1 sg.length e1, .slice Y2 mt.length e2, .int .i64 L], .agg #[.slice A1 sg.length c1, .slice A2 mt.length c2, .int .i64 L]] w fun e w' => e = .returned (.bool true) ∧ Below w.heap.size w w' :=
  h.out.ky.equal h.out.ko rfl rfl (by have := hd.out.1; omega) (by have := hd.out.1; have := hd.out.2.1; omega)
omit hd in
theorem facesX : Calls Try.prog 20 #[.agg #[.slice X sg.length d1, .slice Y (4 * sg.length) d2, .int .i64 L]] w fun e w' => ∃ A c, e = .returned (.slice A (rows (facesL (renM mt xs sg.length))).length c) ∧ Hid (RL w' (· < w'.heap.size) A (rows (facesL (renM mt xs sg.length)))) ∧ Below w.heap.size w w' :=
  h.out.kx.faces hd' (renS_length _ _) (renM_length _ _ _)
omit hd' in
theorem facesD : Calls Try.prog 20 #[.agg #[.slice A1 sg.length c1, .slice A2 mt.length c2, .int .i64 L]] w fun e w' => ∃ A c, e = .returned (.slice A (rows (facesL mt)).length c) ∧ Hid (RL w' (· < w'.heap.size) A (rows (facesL mt))) ∧ Below w.heap.size w w' :=
  h.out.ko.faces hd rfl rfl
omit hd in
theorem strandsX : Calls Try.prog 23 #[.agg #[.slice X sg.length d1, .slice Y (4 * sg.length) d2, .int .i64 L]] w fun e w' => ∃ A c, e = .returned (.slice A (rows (strandsL (renS sg xs) (renM mt xs sg.length))).length c) ∧ Hid (RL w' (· < w'.heap.size) A (rows (strandsL (renS sg xs) (renM mt xs sg.length)))) ∧ Below w.heap.size w w' :=
  h.out.kx.strands hd' (renS_length _ _) (renM_length _ _ _)
omit hd' in
theorem strandsD : Calls Try.prog 23 #[.agg #[.slice A1 sg.length c1, .slice A2 mt.length c2, .int .i64 L]] w fun e w' => ∃ A c, e = .returned (.slice A (rows (strandsL sg mt)).length c) ∧ Hid (RL w' (· < w'.heap.size) A (rows (strandsL sg mt))) ∧ Below w.heap.size w w' :=
  h.out.ko.strands hd rfl rfl
omit hd in
theorem graphX : Calls Try.prog 21 #[.agg #[.slice X sg.length d1, .slice Y (4 * sg.length) d2, .int .i64 L]] w fun e w' => ∃ A c, e = .returned (.slice A (rows (graphL (renM mt xs sg.length) sg.length)).length c) ∧ Hid (RL w' (· < w'.heap.size) A (rows (graphL (renM mt xs sg.length) sg.length))) ∧ Below w.heap.size w w' :=
  h.out.kx.graph hd' (renS_length _ _) (renM_length _ _ _)
omit hd' in
theorem graphDD : Calls Try.prog 21 #[.agg #[.slice A1 sg.length c1, .slice A2 mt.length c2, .int .i64 L]] w fun e w' => ∃ A c, e = .returned (.slice A (rows (graphL mt sg.length)).length c) ∧ Hid (RL w' (· < w'.heap.size) A (rows (graphL mt sg.length))) ∧ Below w.heap.size w w' :=
  h.out.ko.graph hd rfl rfl
theorem compsX (hP : Hid (PermI xs sg.length)) {q : Nat} (hq : Hid ((strandsL sg mt).length = q)) : Calls Try.prog 25 #[.agg #[.slice X sg.length d1, .slice Y (4 * sg.length) d2, .int .i64 L]] w fun e w' => e = .returned (.int .i64 ((q : Int) + L)) ∧ Below w.heap.size w w' :=
  h.out.kx.comps hd' (renS_length _ _) (renM_length _ _ _) (by rw [strands_len hd.out hP.out]; exact hq.out)
omit hd' in
theorem compsD {q : Nat} (hq : Hid ((strandsL sg mt).length = q)) : Calls Try.prog 25 #[.agg #[.slice A1 sg.length c1, .slice A2 mt.length c2, .int .i64 L]] w fun e w' => e = .returned (.int .i64 ((q : Int) + L)) ∧ Below w.heap.size w w' :=
  h.out.ko.comps hd rfl rfl hq.out
end
theorem fac_len {mt : List Int} {n : Nat} (hn : mt.length = 4 * n) (h : n ≤ 64) : (facesL mt).length ≤ 1000 := by
  unfold facesL cycsL
  rw [List.length_map]
  have := List.length_filter_le (fun h => allT h && lstB (nxF mt) mt.length h) (List.range mt.length)
  simp only [List.length_range] at this
  omega
theorem str_len {sg mt : List Int} {n : Nat} (hn : mt.length = 4 * n) (h : n ≤ 64) : (strandsL sg mt).length ≤ 1000 := by
  have := strandsL_le sg mt
  omega

section
variable (A1 A2 : Option Addr) (c1 c2 : Nat) (sg mt : List Int) (L : Int) (A3 : Option Addr) (c3 : Nat) (xs : List Int) (w : World) (hd : DArg w A1 A2 sg mt L) (hx : RI w (· < w.heap.size) A3 xs)
include hd

set_option maxHeartbeats 2000000 in
theorem inv_great (m : Nat) (hg : 70 < sg.length ∨ 300 < mt.length) :
    Calls Try.prog 10 #[.agg #[.slice A1 sg.length c1, .slice A2 mt.length c2, .int .i64 L], .slice A3 m c3] w fun e w' => e = .returned (.bool true) ∧ Below w.heap.size w w' := by
  have HO := Lib.hid (KBox.new (c1 := c1) (c2 := c2) (L := L) rfl rfl hd.rs hd.rm (fun _ h => h))
  have HG := Lib.hid hg
  clear hd hg
  go_enter Try.func10, Try.ntmps10
  go_wp2_with fail
  refine (awake_any _).mono ?_
  rintro e w1 ⟨rfl, hb1⟩
  have HO1 := Lib.hid (HO.out.call hb1)
  have k0 := HO1.out.c0
  have k1 := HO1.out.c1
  have k2 := HO1.out.c2
  have HB1 := Lib.hid (below_box (o := .cells #[.slice A1 sg.length c1, .slice A2 mt.length c2, .int .i64 L] 24) (by simpa using hb1))
  clear hb1
  go_wp2_with fail
  refine (great_yes A1 A2 c1 c2 sg mt L w1 HG.out).mono ?_
  rintro e w2 ⟨rfl, hb2⟩
  have HB2 := Lib.hid (HB1.out.trans (hb2.mono HB1.out.size))
  clear hb2 k0 k1 k2
  go_wp2_with fail
  go_ret
  exact ⟨rfl, HB2.out⟩
set_option maxHeartbeats 2000000 in
theorem inv_long (m : Nat) (hg1 : ¬ 70 < sg.length) (hg2 : ¬ 300 < mt.length) (hm : 100 < m) :
    Calls Try.prog 10 #[.agg #[.slice A1 sg.length c1, .slice A2 mt.length c2, .int .i64 L], .slice A3 m c3] w fun e w' => e = .returned (.bool true) ∧ Below w.heap.size w w' := by
  have HO := Lib.hid (KBox.new (c1 := c1) (c2 := c2) (L := L) rfl rfl hd.rs hd.rm (fun _ h => h))
  have HG1 := Lib.hid hg1
  have HG2 := Lib.hid hg2
  clear hd hg1 hg2
  go_enter Try.func10, Try.ntmps10
  go_wp2_with fail
  refine (awake_any _).mono ?_
  rintro e w1 ⟨rfl, hb1⟩
  have HO1 := Lib.hid (HO.out.call hb1)
  have k0 := HO1.out.c0
  have k1 := HO1.out.c1
  have k2 := HO1.out.c2
  have HB1 := Lib.hid (below_box (o := .cells #[.slice A1 sg.length c1, .slice A2 mt.length c2, .int .i64 L] 24) (by simpa using hb1))
  clear hb1
  go_wp2_with fail
  refine (great_no A1 A2 c1 c2 sg mt L w1 HG1.out HG2.out).mono ?_
  rintro e w2 ⟨rfl, hb2⟩
  have HB2 := Lib.hid (HB1.out.trans (hb2.mono HB1.out.size))
  clear hb2 k0 k1 k2
  go_wp2_with fail
  go_ret
  exact ⟨rfl, HB2.out⟩

include hx in
set_option maxHeartbeats 4000000 in
theorem inv_err (hg1 : ¬ 70 < sg.length) (hg2 : ¬ 300 < mt.length) (hm : ¬ 100 < xs.length) (hno : ¬ (IsD sg mt L ∧ PermI xs sg.length)) :
    Calls Try.prog 10 #[.agg #[.slice A1 sg.length c1, .slice A2 mt.length c2, .int .i64 L], .slice A3 xs.length c3] w fun e w' => e = .returned (.bool true) ∧ Below w.heap.size w w' := by
  have HO := Lib.hid (KBox.new (c1 := c1) (c2 := c2) (L := L) rfl rfl hd.rs hd.rm (fun _ h => h))
  have HX := Lib.hid hx
  have HL1 := Lib.hid hd.ls
  have HL2 := Lib.hid hd.lm
  have HG1 := Lib.hid hg1
  have HG2 := Lib.hid hg2
  have HNO := Lib.hid hno
  clear hd hx hg1 hg2 hno
  go_enter Try.func10, Try.ntmps10
  go_wp2_with fail
  refine (awake_any _).mono ?_
  rintro e w1 ⟨rfl, hb1⟩
  have HO1 := Lib.hid (HO.out.call hb1)
  have k0 := HO1.out.c0
  have k1 := HO1.out.c1
  have k2 := HO1.out.c2
  have HB1 := Lib.hid (below_box (o := .cells #[.slice A1 sg.length c1, .slice A2 mt.length c2, .int .i64 L] 24) (by simpa using hb1))
  clear hb1
  go_wp2_with fail
  refine (great_no A1 A2 c1 c2 sg mt L w1 HG1.out HG2.out).mono ?_
  rintro e w2 ⟨rfl, hb2⟩
  have HB2 := Lib.hid (HB1.out.trans (hb2.mono HB1.out.size))
  have HO2 := Lib.hid (HO1.out.call hb2)
  clear hb2 k0 k1 k2 HO HO1 HB1
  have HX2 := Lib.hid (HX.out.below HB2.out)
  have k0 := HO2.out.c0
  have k1 := HO2.out.c1
  have k2 := HO2.out.c2
  go_wp2_with fail
  have hcall : ∃ k : Int, (k = 1 ∨ k = 2) ∧ Calls Try.prog 36 #[.agg #[.slice A1 sg.length c1, .slice A2 mt.length c2, .int .i64 L], .slice A3 xs.length c3] w2 (RenNo k w2) := by
    by_cases hI : IsD sg mt L
    · refine ⟨2, .inr rfl, ?_⟩
      by_cases hl : xs.length = sg.length
      · have := ren_range A1 A2 A3 c1 c2 c3 sg mt xs L w2 (· < w2.heap.size) HO2.out.db.rs HO2.out.db.rm (HX2.out.imp fun b hb => Nat.lt_of_lt_of_le hb HB2.out.size) (fun _ h => h) hI hl (fun h => HNO.out ⟨hI, h⟩)
        rwa [hl]
      · exact ren_len A1 A2 A3 c1 c2 c3 sg mt L w2 (· < w2.heap.size) HO2.out.db.rs HO2.out.db.rm (fun _ h => h) xs.length hI hl
    · exact ⟨1, .inl rfl, ren_bad A1 A2 A3 c1 c2 c3 sg mt L w2 (· < w2.heap.size) HO2.out.db.rs HO2.out.db.rm (fun _ h => h) xs.length HL1.out HL2.out hI⟩
  obtain ⟨k, hk, hcall⟩ := hcall
  refine hcall.mono ?_
  clear hcall
  rintro e w3 ⟨rfl, hb3⟩
  have HB3 := Lib.hid (HB2.out.trans (hb3.mono HB2.out.size))
  have HB4 := Lib.hid (HB3.out.alloc HB3.out.size (.cells #[.slice none 0 0, .slice none 0 0, .int .i64 0] 24))
  have q0 : (k != 0) = true := by rw [bne_iff_ne]; omega
  clear hb3 k0 k1 k2 hk
  go_wp2_with fail
  go_ret
  exact ⟨rfl, HB4.out⟩

include hx in
set_option maxRecDepth 100000 in
set_option maxHeartbeats 8000000 in
theorem inv_ok (hg1 : ¬ 70 < sg.length) (hg2 : ¬ 300 < mt.length) (hyes : IsD sg mt L) (hP : PermI xs sg.length) :
    Calls Try.prog 10 #[.agg #[.slice A1 sg.length c1, .slice A2 mt.length c2, .int .i64 L], .slice A3 xs.length c3] w fun e w' => e = .returned (.bool true) ∧ Below w.heap.size w w' := by
  have HO := Lib.hid (KBox.new (c1 := c1) (c2 := c2) (L := L) rfl rfl hd.rs hd.rm (fun _ h => h))
  have HX := Lib.hid hx
  have HL1 := Lib.hid hd.ls
  have HL2 := Lib.hid hd.lm
  have HG1 := Lib.hid hg1
  have HG2 := Lib.hid hg2
  have HYES := Lib.hid hyes
  have HP := Lib.hid hP
  have hsl : sg.length ≤ 64 := hyes.1
  have hmx : ¬ 100 < xs.length := by have := hP.1; omega
  have q3 : decide ((100 : Int) < (xs.length : Int)) = false := decide_eq_false (by omega)
  have hmk := make_ints 22 Try.underlying22 xs.length (by omega)
  clear hd hx hg1 hg2 hP hyes
  go_enter Try.func10, Try.ntmps10
  go_wp2_with fail
  refine (awake_any _).mono ?_
  rintro e w1 ⟨rfl, hb1⟩
  have HO1 := Lib.hid (HO.out.call hb1)
  have k0 := HO1.out.c0
  have k1 := HO1.out.c1
  have k2 := HO1.out.c2
  have HB1 := Lib.hid (below_box (o := .cells #[.slice A1 sg.length c1, .slice A2 mt.length c2, .int .i64 L] 24) (by simpa using hb1))
  clear hb1
  go_wp2_with fail
  refine (great_no A1 A2 c1 c2 sg mt L w1 HG1.out HG2.out).mono ?_
  rintro e w2 ⟨rfl, hb2⟩
  have HB2 := Lib.hid (HB1.out.trans (hb2.mono HB1.out.size))
  have HO2 := Lib.hid (HO1.out.call hb2)
  clear hb2 k0 k1 k2 HO HO1 HB1
  have HX2 := Lib.hid (HX.out.below HB2.out)
  have k0 := HO2.out.c0
  have k1 := HO2.out.c1
  have k2 := HO2.out.c2
  go_wp2_with fail
  have hcall : Calls Try.prog 36 #[.agg #[.slice A1 sg.length c1, .slice A2 mt.length c2, .int .i64 L], .slice A3 xs.length c3] w2 (RenOk sg mt xs L w2) := by
    have := ren_ok A1 A2 A3 c1 c2 c3 sg mt xs L w2 (· < w2.heap.size) HO2.out.db.rs HO2.out.db.rm (HX2.out.imp fun b hb => Nat.lt_of_lt_of_le hb HB2.out.size) (fun _ h => h) HYES.out HP.out
    rwa [HP.out.1]
  refine hcall.mono ?_
  clear hcall
  rintro e w3 ⟨v1, v2, rfl, hf3, hb3⟩
  obtain ⟨X, d1, rfl, -, -, -⟩ := hf3.os.shape
  obtain ⟨Y, d2, rfl, -, -, -⟩ := hf3.om.shape
  rw [renS_length, renM_length] at hf3 ⊢
  have HF3 := Lib.hid hf3
  have HB3 := Lib.hid (HB2.out.trans (hb3.mono HB2.out.size))
  have HO3 := Lib.hid (HO2.out.call hb3)
  have hb4 := (Below.refl w3.heap.size w3).alloc (Nat.le_refl _) (.cells #[.slice X sg.length d1, .slice Y (4 * sg.length) d2, .int .i64 L] 24)
  have HB4 := Lib.hid (HB3.out.trans (hb4.mono HB3.out.size))
  have HN4 : Hid (NSt w (w3.alloc (.cells #[.slice X sg.length d1, .slice Y (4 * sg.length) d2, .int .i64 L] 24)) A1 A2 A3 c1 c2 sg mt xs L w3.heap.size (w3.heap.size + 1) X Y d1 d2 (renS sg xs) (renM mt xs sg.length)) := by
    obtain ⟨A, c', hv, -, -, hr⟩ := HF3.out.os.reads
    injection hv with e1 _ _
    subst e1
    obtain ⟨A', c'', hv', -, -, hr'⟩ := HF3.out.om.reads
    injection hv' with e1 _ _
    subst e1
    exact Lib.hid ⟨HO3.out.call hb4, KBox.new (renS_length _ _) (renM_length _ _ _) hr hr' (fun b h => h.2), (HX.out.below HB4.out).imp fun b hb => Nat.lt_succ_of_lt hb⟩
  obtain ⟨bx, hbx⟩ : ∃ b, w3.heap.size = b := ⟨_, rfl⟩
  clear hb3 hb4 hf3 k0 k1 k2 HO2 HB2 HO3 HB3 HX2 HF3
  have k0 := HN4.out.ko.c0
  have k1 := HN4.out.ko.c1
  have k2 := HN4.out.ko.c2
  go_wp2_with fail
  rw [hbx] at HN4
  have hs4 : (w3.alloc (.cells #[.slice X sg.length d1, .slice Y (4 * sg.length) d2, .int .i64 L] 24)).heap.size = bx + 1 := by simp [hbx]
  clear hbx
  generalize w3.alloc (.cells #[.slice X sg.length d1, .slice Y (4 * sg.length) d2, .int .i64 L] 24) = w4 at *
  rw [HP.out.1]
  have T0 : Hid (BSt w (w4.alloc (.cells (Array.replicate sg.length (Value.int .i64 0)) 3)) w4.heap.size A1 A2 A3 c1 c2 sg mt xs L bx (bx + 1) X Y d1 d2 (renS sg xs) (renM mt xs sg.length) (List.replicate sg.length 0)) := by
    have hb := (Below.refl w4.heap.size w4).alloc (Nat.le_refl _) (.cells (Array.replicate sg.length (Value.int .i64 0)) 3)
    have hp := OI.new w4 w.heap.size sg.length HB4.out.size (by unfold maxLen; omega)
    exact Lib.hid ⟨HN4.out.below hb, ⟨by simpa using hp, HB4.out.trans (hb.mono HB4.out.size), by simp⟩, by simp, HN4.out.ko.le, HN4.out.kx.le⟩
  clear hmk k0 k1 k2 HB4 HN4
  rw [hs4] at T0
  clear hs4
  generalize w4.alloc (.cells (Array.replicate sg.length (Value.int .i64 0)) 3) = w5 at *
  have HXN := Lib.hid HP.out.1
  go_loopw [35] (fun i wr => ∃ (k : Nat) (p : List Int), k ≤ sg.length ∧ i = .int .i64 k ∧ Hid (BSt w wr (bx + 1) A1 A2 A3 c1 c2 sg mt xs L bx (bx + 1) X Y d1 d2 (renS sg xs) (renM mt xs sg.length) p) ∧ Hid (AtI xs sg.length k p)) (fun i _ => sg.length - (intOf i).toNat)
  case atStart => exact ⟨0, _, Nat.zero_le _, rfl, T0, Lib.hid ⟨by simp, fun i h => by omega⟩⟩
  case round =>
    clear T0
    obtain ⟨k, p, hk, rfl, HT, HV⟩ := hrel
    by_cases hlt : k < sg.length
    · obtain ⟨b3, o3, rfl, -, hcx⟩ := HT.out.ns.rx.at_ (k := k) (by rw [HXN.out]; exact hlt)
      have k3 := hcx k (by rw [HXN.out]; exact hlt)
      clear hcx
      obtain ⟨hce, hcl⟩ := HP.out.2.gn hlt
      have HV' := Lib.hid (at_step HP.out hlt HV.out)
      have HT' := Lib.hid (HT.out.store (gn xs k) (k : Int))
      obtain ⟨k4, k5⟩ := HT.out.pr.at_ HT.out.pl hcl
      rw [hce] at k3
      obtain ⟨c, hc⟩ : ∃ c, gn xs k = c := ⟨_, rfl⟩
      rw [hc] at hcl k3 k4 k5 HT' HV'
      have hsg := HT.out.pr.size
      have z1 : (0 : Int) ≤ (c : Int) ∧ (c : Int) < (sg.length : Int) := by omega
      clear hce HT HV hc
      go_wp2_with fail
      go_roundw
      case rel => exact ⟨k + 1, _, by omega, by go_num, HT', HV'⟩
      case measure => simp [intOf]; omega
    · obtain rfl : k = sg.length := by omega
      have hpe : p = backX xs sg.length := by
        refine ext_gi (by rw [HT.out.pl]; simp [backX]) fun c hc => ?_
        rw [HT.out.pl] at hc
        rw [at_end HP.out HV.out hc, gi_back hc]
      have hrb : RI wr (· < wr.heap.size) (some ⟨bx + 1, 0, none⟩) p := fun hne => ⟨bx + 1, 0, rfl, HT.out.pr.size, fun j hj => by rw [Nat.zero_add]; exact (HT.out.pr.at_ HT.out.pl (by rw [← HT.out.pl]; exact hj)).1⟩
      rw [hpe] at hrb
      have HRB := Lib.hid hrb
      have HK := Lib.hid HT.out.ns
      have HB5 := Lib.hid HT.out.pr.below
      have k0 := HK.out.kx.c0
      have k1 := HK.out.kx.c1
      have k2 := HK.out.kx.c2
      rw [renS_length] at k0
      rw [renM_length] at k1
      clear HT HV hrb hpe
      go_wp2_with fail
      refine (ren_back HK.out.kx HRB HYES HP rfl rfl).mono ?_
      rintro e w6 ⟨B1, B2, e1, e2, rfl, hf6, hb6⟩
      have HB6 := Lib.hid (HB5.out.trans (hb6.mono HB5.out.size))
      have HK6 := Lib.hid (HK.out.below hb6)
      have hb7 := (Below.refl w6.heap.size w6).alloc (Nat.le_refl _) (.cells #[.slice B1 sg.length e1, .slice B2 mt.length e2, .int .i64 L] 24)
      have HB7 := Lib.hid (HB6.out.trans (hb7.mono HB6.out.size))
      have HK7 := Lib.hid (HK6.out.below hb7)
      have HY7 : Hid (KBox (w6.alloc (.cells #[.slice B1 sg.length e1, .slice B2 mt.length e2, .int .i64 L] 24)) w6.heap.size (w6.heap.size + 1) B1 B2 e1 e2 sg mt L) := by
        obtain ⟨A, c', hv, -, -, hr⟩ := hf6.os.reads
        injection hv with e1 _ _
        subst e1
        obtain ⟨A', c'', hv', -, -, hr'⟩ := hf6.om.reads
        injection hv' with e1 _ _
        subst e1
        exact Lib.hid (KBox.new rfl rfl hr hr' (fun b h => h.2))
      clear hb6 hb7 hf6 k0 k1 k2 HK HK6 HB5 HB6 HRB
      go_wp2_with fail
      obtain ⟨yb, hyb⟩ : ∃ b, w6.heap.size = b := ⟨_, rfl⟩
      rw [hyb] at HY7 ⊢
      clear hyb
      generalize w6.alloc (.cells #[.slice B1 sg.length e1, .slice B2 mt.length e2, .int .i64 L] 24) = w7 at *
      have HI : Hid (ISt w w7 A1 A2 c1 c2 sg mt L bx (bx + 1) X Y d1 d2 (renS sg xs) (renM mt xs sg.length) yb (yb + 1) B1 B2 e1 e2) := Lib.hid ⟨HK7.out.ko, HK7.out.kx, HY7.out, HB7.out⟩
      have k0 := HI.out.ko.c0
      have k1 := HI.out.ko.c1
      have k2 := HI.out.ko.c2
      have k3 := HI.out.kx.c0
      have k4 := HI.out.kx.c1
      have k5 := HI.out.kx.c2
      have k6 := HI.out.ky.c0
      have k7 := HI.out.ky.c1
      have k8 := HI.out.ky.c2
      rw [renS_length] at k3
      rw [renM_length] at k4
      clear HK7 HY7
      have hdr := ren_isD HYES.out HP.out
      have HDR := Lib.hid hdr
      have hml : mt.length = 4 * sg.length := HYES.out.2.1
      have HLF := Lib.hid (And.intro (fac_len (renM_length mt xs sg.length) hsl) (fac_len hml hsl))
      have HEF := Lib.hid (lens_faces HYES.out HP.out)
      have HLS := Lib.hid (And.intro (str_len (sg := renS sg xs) (renM_length mt xs sg.length) hsl) (str_len (sg := sg) hml hsl))
      have HES := Lib.hid (lens_strands HYES.out HP.out)
      have HLG := Lib.hid (And.intro (Nat.le_trans (graphU_length (renM mt xs sg.length) sg.length sg.length) (by omega : sg.length ≤ 1000)) (Nat.le_trans (graphU_length mt sg.length sg.length) (by omega : sg.length ≤ 1000)))
      have HEG := Lib.hid (lens_graph HYES.out HP.out)
      obtain ⟨q, hq⟩ : ∃ q, (strandsL sg mt).length = q := ⟨_, rfl⟩
      have HSQ := Lib.hid hq
      clear hdr hml hq
      go_region_held3 (fun w' => Hid (ISt w w' A1 A2 c1 c2 sg mt L bx (bx + 1) X Y d1 d2 (renS sg xs) (renM mt xs sg.length) yb (yb + 1) B1 B2 e1 e2) ∧ w'.cell? ⟨w.heap.size, 0, none⟩ = some (.slice A1 sg.length c1) ∧ w'.cell? ⟨w.heap.size, 1, none⟩ = some (.slice A2 mt.length c2) ∧ w'.cell? ⟨w.heap.size, 2, none⟩ = some (.int .i64 L) ∧ w'.cell? ⟨bx, 0, none⟩ = some (.slice X sg.length d1) ∧ w'.cell? ⟨bx, 1, none⟩ = some (.slice Y (4 * sg.length) d2) ∧ w'.cell? ⟨bx, 2, none⟩ = some (.int .i64 L) ∧ w'.cell? ⟨yb, 0, none⟩ = some (.slice B1 sg.length e1) ∧ w'.cell? ⟨yb, 1, none⟩ = some (.slice B2 mt.length e2) ∧ w'.cell? ⟨yb, 2, none⟩ = some (.int .i64 L))
        (first | exact keepI ⟨HI, k0, k1, k2, k3, k4, k5, k6, k7, k8⟩ (Below.refl _ _).drew | exact keepI (by assumption) hr13 | exact keepI (by assumption) hr12 | exact keepI (by assumption) hr11 | exact keepI (by assumption) hr10 | exact keepI (by assumption) hr9 | exact keepI (by assumption) hr8 | exact keepI (by assumption) hr7 | exact keepI (by assumption) hr6 | exact keepI (by assumption) hr5 | exact keepI (by assumption) hr4 | exact keepI (by assumption) hr3 | exact keepI (by assumption) hr2 | exact keepI (by assumption) hr1)
        (first
          | (go_at_call 19; ((refine (validX (by first | assumption | exact And.left (by assumption)) HDR).mono ?_); rintro e9 wa1 ⟨rfl, hr1⟩))
          | (go_at_call 34; ((refine (equalYD (by first | assumption | exact And.left (by assumption)) HYES).mono ?_); rintro e9 wa2 ⟨rfl, hr2⟩))
          | (go_at_call 20; (with_reducible (show Calls _ _ #[Value.agg #[Value.slice X _ _, _, _]] _ _)); ((refine (facesX (by first | assumption | exact And.left (by assumption)) HDR).mono ?_); rintro e9 wa3 ⟨Fx, fx, rfl, hfx, hr3⟩))
          | (go_at_call 20; (with_reducible (show Calls _ _ #[Value.agg #[Value.slice A1 _ _, _, _]] _ _)); ((refine (facesD (by first | assumption | exact And.left (by assumption)) HYES).mono ?_); rintro e9 wa4 ⟨Fd, fd, rfl, hfd, hr4⟩))
          | (go_at_call 39; (with_reducible (show Calls _ _ #[Value.slice Fx _ _, _] _ _)); ((refine (lensT hfx hr4 hfd HLF HEF).mono ?_); rintro e9 wa5 ⟨rfl, hr5⟩))
          | (go_at_call 23; (with_reducible (show Calls _ _ #[Value.agg #[Value.slice X _ _, _, _]] _ _)); ((refine (strandsX (by first | assumption | exact And.left (by assumption)) HDR).mono ?_); rintro e9 wa6 ⟨Sx, sx, rfl, hsx, hr6⟩))
          | (go_at_call 23; (with_reducible (show Calls _ _ #[Value.agg #[Value.slice A1 _ _, _, _]] _ _)); ((refine (strandsD (by first | assumption | exact And.left (by assumption)) HYES).mono ?_); rintro e9 wa7 ⟨Sd, sd, rfl, hsd, hr7⟩))
          | (go_at_call 39; (with_reducible (show Calls _ _ #[Value.slice Sx _ _, _] _ _)); ((refine (lensT hsx hr7 hsd HLS HES).mono ?_); rintro e9 wa8 ⟨rfl, hr8⟩))
          | (go_at_call 21; (with_reducible (show Calls _ _ #[Value.agg #[Value.slice X _ _, _, _]] _ _)); ((refine (graphX (by first | assumption | exact And.left (by assumption)) HDR).mono ?_); rintro e9 wa9 ⟨Gx, gx, rfl, hgx, hr9⟩))
          | (go_at_call 21; (with_reducible (show Calls _ _ #[Value.agg #[Value.slice A1 _ _, _, _]] _ _)); ((refine (graphDD (by first | assumption | exact And.left (by assumption)) HYES).mono ?_); rintro e9 wb1 ⟨Gd, gd, rfl, hgd, hr10⟩))
          | (go_at_call 39; (with_reducible (show Calls _ _ #[Value.slice Gx _ _, _] _ _)); ((refine (lensT hgx hr10 hgd HLG HEG).mono ?_); rintro e9 wb2 ⟨rfl, hr11⟩))
          | (go_at_call 25; (with_reducible (show Calls _ _ #[Value.agg #[Value.slice X _ _, _, _]] _ _)); ((refine (compsX (by first | assumption | exact And.left (by assumption)) HYES HDR HP HSQ).mono ?_); rintro e9 wb3 ⟨rfl, hr12⟩))
          | (go_at_call 25; (with_reducible (show Calls _ _ #[Value.agg #[Value.slice A1 _ _, _, _]] _ _)); ((refine (compsD (by first | assumption | exact And.left (by assumption)) HYES HSQ).mono ?_); rintro e9 wb4 ⟨rfl, hr13⟩)))
      have HBF := (And.left (by assumption) : Hid (ISt w wb4 A1 A2 c1 c2 sg mt L bx (bx + 1) X Y d1 d2 (renS sg xs) (renM mt xs sg.length) yb (yb + 1) B1 B2 e1 e2))
      have HB9 := Lib.hid HBF.out.bl
      clear HBF hr1 hr2 hr3 hr4 hr5 hr6 hr7 hr8 hr9 hr10 hr11 hr12 hr13 hfx hfd hsx hsd hgx hgd k0 k1 k2 k3 k4 k5 k6 k7 k8
      go_wp2_with fail
      go_ret
      exact ⟨rfl, HB9.out⟩
end

theorem diagramInvariant_walk (A1 A2 : Option Addr) (c1 c2 : Nat) (sg mt : List Int) (L : Int) (A3 : Option Addr) (c3 : Nat) (xs : List Int) (w : World) (hd : DArg w A1 A2 sg mt L) (hx : RI w (· < w.heap.size) A3 xs) (_hxl : xs.length ≤ maxLen) (_hxb : ∀ k, -9223372036854775808 ≤ gi xs k ∧ gi xs k ≤ 9223372036854775807) :
    Calls Try.prog 10 #[.agg #[.slice A1 sg.length c1, .slice A2 mt.length c2, .int .i64 L], .slice A3 xs.length c3] w fun e w' => e = .returned (.bool true) ∧ Below w.heap.size w w' := by
  by_cases hg : 70 < sg.length ∨ 300 < mt.length
  · exact inv_great A1 A2 c1 c2 sg mt L A3 c3 w hd _ hg
  by_cases hm : 100 < xs.length
  · exact inv_long A1 A2 c1 c2 sg mt L A3 c3 w hd _ (by omega) (by omega) hm
  by_cases hI : IsD sg mt L ∧ PermI xs sg.length
  · exact inv_ok A1 A2 c1 c2 sg mt L A3 c3 xs w hd hx (by omega) (by omega) hI.1 hI.2
  · exact inv_err A1 A2 c1 c2 sg mt L A3 c3 xs w hd hx (by omega) (by omega) hm hI
end Go.Proofs.Ytkanpcdjhaepjaa
