/-
  The law DiagramRenumbers, walked: the call returns true and writes nothing that was there.
-/
import Derived.Test.YtkanpcdjhaepjaaRRen
import Derived.Test.YtkanpcdjhaepjaaIsPerm
import Derived.Test.YtkanpcdjhaepjaaKBox
import Derived.Test.YtkanpcdjhaepjaaDEqual
import Derived.Deep.RegionHeld3
namespace Go.Proofs.Ytkanpcdjhaepjaa
open Go.RowKit

/-- the diagram that came in, the order, and the result -/
structure NSt (w0 w : World) (A1 A2 A3 : Option Addr) (c1 c2 : Nat) (sg mt xs : List Int) (L : Int) (bx Mx : Nat) (X Y : Option Addr) (d1 d2 : Nat) (sg' mt' : List Int) : Prop where
  ko : KBox w w0.heap.size (w0.heap.size + 1) A1 A2 c1 c2 sg mt L
  kx : KBox w bx Mx X Y d1 d2 sg' mt' L
  rx : RI w (· < w0.heap.size + 1) A3 xs
section
variable {w0 w w' : World} {A1 A2 A3 X Y : Option Addr} {c1 c2 c3 bx Mx d1 d2 : Nat} {sg mt xs sg' mt' : List Int} {L : Int}
theorem NSt.below (h : NSt w0 w A1 A2 A3 c1 c2 sg mt xs L bx Mx X Y d1 d2 sg' mt') (hb : Below w.heap.size w w') : NSt w0 w' A1 A2 A3 c1 c2 sg mt xs L bx Mx X Y d1 d2 sg' mt' :=
  ⟨h.ko.call hb, h.kx.call hb, h.rx.keep fun b hlt => hb.block b (Nat.lt_of_lt_of_le hlt h.ko.le)⟩
theorem keepN {v0 v1 v2 v3 v4 v5 : Value} {a0 a1 a2 a3 a4 a5 : Addr} (h : Hid (NSt w0 w A1 A2 A3 c1 c2 sg mt xs L bx Mx X Y d1 d2 sg' mt') ∧ w.cell? a0 = some v0 ∧ w.cell? a1 = some v1 ∧ w.cell? a2 = some v2 ∧ w.cell? a3 = some v3 ∧ w.cell? a4 = some v4 ∧ w.cell? a5 = some v5) (hb : Below w.heap.size w w') :
    Hid (NSt w0 w' A1 A2 A3 c1 c2 sg mt xs L bx Mx X Y d1 d2 sg' mt') ∧ w'.cell? a0 = some v0 ∧ w'.cell? a1 = some v1 ∧ w'.cell? a2 = some v2 ∧ w'.cell? a3 = some v3 ∧ w'.cell? a4 = some v4 ∧ w'.cell? a5 = some v5 := by
  obtain ⟨h, h0, h1, h2, h3, h4, h5⟩ := h
  have hk : ∀ {a v}, w.cell? a = some v → w'.cell? a = some v := fun hc => (hb.cell (World.block_lt_of_cell? w _ hc)).trans hc
  exact ⟨Lib.hid (h.out.below hb), hk h0, hk h1, hk h2, hk h3, hk h4, hk h5⟩
def RrPost (sg mt xs : List Int) (L : Int) (w : World) (e : Ending) (w' : World) : Prop := ∃ B1 B2 e1 e2, e = .returned (.agg #[.slice B1 sg.length e1, .slice B2 (4 * sg.length) e2, .int .i64 L]) ∧ Hid (RI w' (· < w'.heap.size) B1 (renS sg xs)) ∧ Hid (RI w' (· < w'.heap.size) B2 (renM mt xs sg.length)) ∧ Below w.heap.size w w'
theorem rrenT {n : Nat} (h : Hid (NSt w0 w A1 A2 A3 c1 c2 sg mt xs L bx Mx X Y d1 d2 sg' mt')) (hd : Hid (IsD sg mt L)) (hP : Hid (PermI xs sg.length)) (hn : n = sg.length) :
    Calls Try.prog 38 #[.agg #[.slice A1 sg.length c1, .slice A2 mt.length c2, .int .i64 L], .slice A3 n c3] w (RrPost sg mt xs L w) := by
  subst hn
  have hdb := h.out.ko.db
  refine (rren_ok A1 A2 A3 c1 c2 c3 sg mt xs L w (· < w.heap.size) hdb.rs hdb.rm (h.out.rx.imp fun b hb => Nat.lt_of_lt_of_le hb h.out.ko.le) (fun _ h => h) hd.out hP.out).mono ?_
  rintro e w' ⟨v1, v2, rfl, hf, hb⟩
  obtain ⟨B1, e1, rfl, -, -, r1⟩ := hf.os.reads
  obtain ⟨B2, e2, rfl, -, -, r2⟩ := hf.om.reads
  rw [renS_length, renM_length]
  exact ⟨B1, B2, e1, e2, rfl, Lib.hid (r1.imp fun b hb => hb.2), Lib.hid (r2.imp fun b hb => hb.2), hb⟩
theorem equalT {B1 B2 : Option Addr} {e1 e2 n m : Nat} (h : Hid (NSt w0 w A1 A2 A3 c1 c2 sg mt xs L bx Mx X Y d1 d2 sg' mt')) (h1 : Hid (RI w (· < w.heap.size) B1 sg')) (h2 : Hid (RI w (· < w.heap.size) B2 mt')) (hn : sg'.length = n) (hm : mt'.length = m) (hn' : n ≤ 1000) (hm' : m ≤ 1000) :
    Calls Try.prog 35 #[.agg #[.slice X n d1, .slice Y m d2, .int .i64 L], .agg #[.slice B1 n e1, .slice B2 m e2, .int .i64 L]] w fun e w' => e = .returned (.bool true) ∧ Below w.heap.size w w' := by
  subst hn hm
  have := requal_any X Y B1 B2 d1 d2 e1 e2 sg' mt' sg' mt' L L w (· < w.heap.size) h.out.kx.db.rs h.out.kx.db.rm h1.out h2.out (fun _ h => h) (by unfold maxLen; omega) (by unfold maxLen; omega) (by unfold maxLen; omega) (by unfold maxLen; omega)
  rw [show eqD sg' mt' L sg' mt' L = true by simp [eqD]] at this
  exact this
theorem equal0 (w : World) : Calls Try.prog 35 #[.agg #[.slice none 0 0, .slice none 0 0, .int .i64 0], .agg #[.slice none 0 0, .slice none 0 0, .int .i64 0]] w fun e w' => e = .returned (.bool true) ∧ Below w.heap.size w w' :=
  requal_any none none none none 0 0 0 0 [] [] [] [] 0 0 w (· < w.heap.size) RI.nil RI.nil RI.nil RI.nil (fun _ h => h) (by simp) (by simp) (by simp) (by simp)
theorem rvalidK {r : Bool} {bd M : Nat} (h : KBox w bd M A1 A2 c1 c2 sg mt L) (hl : sg.length ≤ maxLen) (hl' : mt.length ≤ maxLen) (hr : decide (IsD sg mt L) = r) :
    Calls Try.prog 13 #[.agg #[.slice A1 sg.length c1, .slice A2 mt.length c2, .int .i64 L]] w fun e w' => e = .returned (.bool r) ∧ Below w.heap.size w w' :=
  rvalid_is (· < w.heap.size) r h.db.rs h.db.rm (fun _ h => h) hl hl' hr
end

section
variable (A1 A2 : Option Addr) (c1 c2 : Nat) (sg mt : List Int) (L : Int) (A3 : Option Addr) (c3 : Nat) (xs : List Int) (w : World) (hd : DArg w A1 A2 sg mt L) (hx : RI w (· < w.heap.size) A3 xs)
include hd

set_option maxHeartbeats 2000000 in
theorem rnm_great (m : Nat) (hg : 70 < sg.length ∨ 300 < mt.length) :
    Calls Try.prog 9 #[.agg #[.slice A1 sg.length c1, .slice A2 mt.length c2, .int .i64 L], .slice A3 m c3] w fun e w' => e = .returned (.bool true) ∧ Below w.heap.size w w' := by
  have HO := Lib.hid (KBox.new (c1 := c1) (c2 := c2) (L := L) rfl rfl hd.rs hd.rm (fun _ h => h))
  have HG := Lib.hid hg
  clear hd hg
  go_enter Try.func9, Try.ntmps9
  go_wp2_with fail
  refine (awake_any _).mono ?_
  rintro e w1 ⟨rfl, hb1⟩
  have HO1 := Lib.hid (HO.out.call hb1)
  have k0 := HO1.out.c0
  have k1 := HO1.out.c1
  have k2 := HO1.out.c2
  have HB1 := Lib.hid (below_box (o := .cells #[.slice A1 sg.length c1, .slice A2 mt.length c2, .int .i64 L] 24) (by simpa using hb1))
  clear hb1
  go_wp2_with fail
  refine (great_yes A1 A2 c1 c2 sg mt L w1 HG.out).mono ?_
  rintro e w2 ⟨rfl, hb2⟩
  have HB2 := Lib.hid (HB1.out.trans (hb2.mono HB1.out.size))
  clear hb2 k0 k1 k2
  go_wp2_with fail
  go_ret
  exact ⟨rfl, HB2.out⟩
set_option maxHeartbeats 2000000 in
theorem rnm_long (m : Nat) (hg1 : ¬ 70 < sg.length) (hg2 : ¬ 300 < mt.length) (hm : 100 < m) :
    Calls Try.prog 9 #[.agg #[.slice A1 sg.length c1, .slice A2 mt.length c2, .int .i64 L], .slice A3 m c3] w fun e w' => e = .returned (.bool true) ∧ Below w.heap.size w w' := by
  have HO := Lib.hid (KBox.new (c1 := c1) (c2 := c2) (L := L) rfl rfl hd.rs hd.rm (fun _ h => h))
  have HG1 := Lib.hid hg1
  have HG2 := Lib.hid hg2
  clear hd hg1 hg2
  go_enter Try.func9, Try.ntmps9
  go_wp2_with fail
  refine (awake_any _).mono ?_
  rintro e w1 ⟨rfl, hb1⟩
  have HO1 := Lib.hid (HO.out.call hb1)
  have k0 := HO1.out.c0
  have k1 := HO1.out.c1
  have k2 := HO1.out.c2
  have HB1 := Lib.hid (below_box (o := .cells #[.slice A1 sg.length c1, .slice A2 mt.length c2, .int .i64 L] 24) (by simpa using hb1))
  clear hb1
  go_wp2_with fail
  refine (great_no A1 A2 c1 c2 sg mt L w1 HG1.out HG2.out).mono ?_
  rintro e w2 ⟨rfl, hb2⟩
  have HB2 := Lib.hid (HB1.out.trans (hb2.mono HB1.out.size))
  clear hb2 k0 k1 k2
  go_wp2_with fail
  go_ret
  exact ⟨rfl, HB2.out⟩

set_option maxHeartbeats 4000000 in
theorem rnm_bad (hg1 : ¬ 70 < sg.length) (hg2 : ¬ 300 < mt.length) (hm : ¬ 100 < xs.length) (hno : ¬ IsD sg mt L) :
    Calls Try.prog 9 #[.agg #[.slice A1 sg.length c1, .slice A2 mt.length c2, .int .i64 L], .slice A3 xs.length c3] w fun e w' => e = .returned (.bool true) ∧ Below w.heap.size w w' := by
  have HO := Lib.hid (KBox.new (c1 := c1) (c2 := c2) (L := L) rfl rfl hd.rs hd.rm (fun _ h => h))
  have HL1 := Lib.hid hd.ls
  have HL2 := Lib.hid hd.lm
  have HG1 := Lib.hid hg1
  have HG2 := Lib.hid hg2
  have HNO := Lib.hid hno
  clear hd hg1 hg2 hno
  go_enter Try.func9, Try.ntmps9
  go_wp2_with fail
  refine (awake_any _).mono ?_
  rintro e w1 ⟨rfl, hb1⟩
  have HO1 := Lib.hid (HO.out.call hb1)
  have k0 := HO1.out.c0
  have k1 := HO1.out.c1
  have k2 := HO1.out.c2
  have HB1 := Lib.hid (below_box (o := .cells #[.slice A1 sg.length c1, .slice A2 mt.length c2, .int .i64 L] 24) (by simpa using hb1))
  clear hb1
  go_wp2_with fail
  refine (great_no A1 A2 c1 c2 sg mt L w1 HG1.out HG2.out).mono ?_
  rintro e w2 ⟨rfl, hb2⟩
  have HB2 := Lib.hid (HB1.out.trans (hb2.mono HB1.out.size))
  have HO2 := Lib.hid (HO1.out.call hb2)
  clear hb2 k0 k1 k2 HO HO1 HB1
  have k0 := HO2.out.c0
  have k1 := HO2.out.c1
  have k2 := HO2.out.c2
  go_wp2_with fail
  refine (ren_bad A1 A2 A3 c1 c2 c3 sg mt L w2 (· < w2.heap.size) HO2.out.db.rs HO2.out.db.rm (fun _ h => h) xs.length HL1.out HL2.out HNO.out).mono ?_
  rintro e w3 ⟨rfl, hb3⟩
  have HB3 := Lib.hid (HB2.out.trans (hb3.mono HB2.out.size))
  have HO3 := Lib.hid (HO2.out.call hb3)
  have HB4 := Lib.hid (HB3.out.alloc HB3.out.size (.cells #[.slice none 0 0, .slice none 0 0, .int .i64 0] 24))
  have HO4 := Lib.hid (HO3.out.alloc (.cells #[.slice none 0 0, .slice none 0 0, .int .i64 0] 24))
  have HX4 := Lib.hid (KBox.new (sg := []) (mt := []) (c1 := 0) (c2 := 0) (L := 0) (A1 := none) (A2 := none) (w := w3) (S := (· < w3.heap.size)) rfl rfl RI.nil RI.nil (fun _ h => h))
  clear hb3 k0 k1 k2 HO2 HB2 HO3 HB3
  have k0 := HO4.out.c0
  have k1 := HO4.out.c1
  have k2 := HO4.out.c2
  go_wp2_with fail
  refine (rvalidK HO4.out HL1.out HL2.out (decide_eq_false HNO.out)).mono ?_
  rintro e w5 ⟨rfl, hb5⟩
  have HB5 := Lib.hid (HB4.out.trans (hb5.mono HB4.out.size))
  have HX5 := Lib.hid (HX4.out.call hb5)
  clear hb5 k0 k1 k2 HO4 HB4 HX4
  have k0 := HX5.out.c0
  have k1 := HX5.out.c1
  have k2 := HX5.out.c2
  simp only [List.length_nil] at k0 k1
  go_wp2_with fail
  refine (equal0 _).mono ?_
  rintro e w6 ⟨rfl, hb6⟩
  have HB6 := Lib.hid (HB5.out.trans (hb6.mono HB5.out.size))
  clear hb6 k0 k1 k2
  go_wp2_with fail
  go_ret
  exact ⟨rfl, HB6.out⟩

include hx in
set_option maxHeartbeats 4000000 in
theorem rnm_range (hg1 : ¬ 70 < sg.length) (hg2 : ¬ 300 < mt.length) (hm : ¬ 100 < xs.length) (hyes : IsD sg mt L) (hno : ¬ PermI xs sg.length) :
    Calls Try.prog 9 #[.agg #[.slice A1 sg.length c1, .slice A2 mt.length c2, .int .i64 L], .slice A3 xs.length c3] w fun e w' => e = .returned (.bool true) ∧ Below w.heap.size w w' := by
  have HO := Lib.hid (KBox.new (c1 := c1) (c2 := c2) (L := L) rfl rfl hd.rs hd.rm (fun _ h => h))
  have HX := Lib.hid hx
  have HL1 := Lib.hid hd.ls
  have HL2 := Lib.hid hd.lm
  have HG1 := Lib.hid hg1
  have HG2 := Lib.hid hg2
  have HYES := Lib.hid hyes
  have HNO := Lib.hid hno
  clear hd hx hg1 hg2 hno hyes
  go_enter Try.func9, Try.ntmps9
  go_wp2_with fail
  refine (awake_any _).mono ?_
  rintro e w1 ⟨rfl, hb1⟩
  have HO1 := Lib.hid (HO.out.call hb1)
  have k0 := HO1.out.c0
  have k1 := HO1.out.c1
  have k2 := HO1.out.c2
  have HB1 := Lib.hid (below_box (o := .cells #[.slice A1 sg.length c1, .slice A2 mt.length c2, .int .i64 L] 24) (by simpa using hb1))
  clear hb1
  go_wp2_with fail
  refine (great_no A1 A2 c1 c2 sg mt L w1 HG1.out HG2.out).mono ?_
  rintro e w2 ⟨rfl, hb2⟩
  have HB2 := Lib.hid (HB1.out.trans (hb2.mono HB1.out.size))
  have HO2 := Lib.hid (HO1.out.call hb2)
  clear hb2 k0 k1 k2 HO HO1 HB1
  have HX2 := Lib.hid (HX.out.below HB2.out)
  have k0 := HO2.out.c0
  have k1 := HO2.out.c1
  have k2 := HO2.out.c2
  go_wp2_with fail
  have hcall : Calls Try.prog 36 #[.agg #[.slice A1 sg.length c1, .slice A2 mt.length c2, .int .i64 L], .slice A3 xs.length c3] w2 (RenNo 2 w2) := by
    by_cases hl : xs.length = sg.length
    · have := ren_range A1 A2 A3 c1 c2 c3 sg mt xs L w2 (· < w2.heap.size) HO2.out.db.rs HO2.out.db.rm (HX2.out.imp fun b hb => Nat.lt_of_lt_of_le hb HB2.out.size) (fun _ h => h) HYES.out hl HNO.out
      rwa [hl]
    · exact ren_len A1 A2 A3 c1 c2 c3 sg mt L w2 (· < w2.heap.size) HO2.out.db.rs HO2.out.db.rm (fun _ h => h) xs.length HYES.out hl
  refine hcall.mono ?_
  clear hcall
  rintro e w3 ⟨rfl, hb3⟩
  have HB3 := Lib.hid (HB2.out.trans (hb3.mono HB2.out.size))
  have HO3 := Lib.hid (HO2.out.call hb3)
  have HB4 := Lib.hid (HB3.out.alloc HB3.out.size (.cells #[.slice none 0 0, .slice none 0 0, .int .i64 0] 24))
  have HO4 := Lib.hid (HO3.out.alloc (.cells #[.slice none 0 0, .slice none 0 0, .int .i64 0] 24))
  have HX4 := Lib.hid (KBox.new (sg := []) (mt := []) (c1 := 0) (c2 := 0) (L := 0) (A1 := none) (A2 := none) (w := w3) (S := (· < w3.heap.size)) rfl rfl RI.nil RI.nil (fun _ h => h))
  clear hb3 k0 k1 k2 HO2 HB2 HO3 HB3
  have k0 := HO4.out.c0
  have k1 := HO4.out.c1
  have k2 := HO4.out.c2
  go_wp2_with fail
  refine (rvalidK HO4.out HL1.out HL2.out (decide_eq_true HYES.out)).mono ?_
  rintro e w5 ⟨rfl, hb5⟩
  have HB5 := Lib.hid (HB4.out.trans (hb5.mono HB4.out.size))
  have HX5 := Lib.hid (HX4.out.call hb5)
  have HO5 := Lib.hid (HO4.out.call hb5)
  have HXS5 := Lib.hid (HX.out.below HB5.out)
  clear hb5 k0 k1 k2 HO4 HB4 HX4
  have k0 := HO5.out.c0
  go_wp2_with fail
  refine (isperm_no A3 c3 sg.length xs _ (· < w.heap.size) HXS5.out (by omega) HNO.out).mono ?_
  rintro e w6 ⟨rfl, rfl⟩
  clear k0
  have k0 := HX5.out.c0
  have k1 := HX5.out.c1
  have k2 := HX5.out.c2
  simp only [List.length_nil] at k0 k1
  go_wp2_with fail
  refine (equal0 _).mono ?_
  rintro e w7 ⟨rfl, hb7⟩
  have HB7 := Lib.hid (HB5.out.trans (hb7.mono HB5.out.size))
  clear hb7 k0 k1 k2
  go_wp2_with fail
  go_ret
  exact ⟨rfl, HB7.out⟩

include hx in
set_option maxRecDepth 100000 in
set_option maxHeartbeats 8000000 in
theorem rnm_ok (hg1 : ¬ 70 < sg.length) (hg2 : ¬ 300 < mt.length) (hyes : IsD sg mt L) (hP : PermI xs sg.length) :
    Calls Try.prog 9 #[.agg #[.slice A1 sg.length c1, .slice A2 mt.length c2, .int .i64 L], .slice A3 xs.length c3] w fun e w' => e = .returned (.bool true) ∧ Below w.heap.size w w' := by
  have HO := Lib.hid (KBox.new (c1 := c1) (c2 := c2) (L := L) rfl rfl hd.rs hd.rm (fun _ h => h))
  have HX := Lib.hid hx
  have HL1 := Lib.hid hd.ls
  have HL2 := Lib.hid hd.lm
  have HG1 := Lib.hid hg1
  have HG2 := Lib.hid hg2
  have HYES := Lib.hid hyes
  have HP := Lib.hid hP
  have hsl : sg.length ≤ 64 := hyes.1
  have hmx : ¬ 100 < xs.length := by have := hP.1; omega
  have q3 : decide ((100 : Int) < (xs.length : Int)) = false := decide_eq_false (by omega)
  clear hd hx hg1 hg2 hP hyes
  go_enter Try.func9, Try.ntmps9
  go_wp2_with fail
  refine (awake_any _).mono ?_
  rintro e w1 ⟨rfl, hb1⟩
  have HO1 := Lib.hid (HO.out.call hb1)
  have k0 := HO1.out.c0
  have k1 := HO1.out.c1
  have k2 := HO1.out.c2
  have HB1 := Lib.hid (below_box (o := .cells #[.slice A1 sg.length c1, .slice A2 mt.length c2, .int .i64 L] 24) (by simpa using hb1))
  clear hb1
  go_wp2_with fail
  refine (great_no A1 A2 c1 c2 sg mt L w1 HG1.out HG2.out).mono ?_
  rintro e w2 ⟨rfl, hb2⟩
  have HB2 := Lib.hid (HB1.out.trans (hb2.mono HB1.out.size))
  have HO2 := Lib.hid (HO1.out.call hb2)
  clear hb2 k0 k1 k2 HO HO1 HB1
  have HX2 := Lib.hid (HX.out.below HB2.out)
  have k0 := HO2.out.c0
  have k1 := HO2.out.c1
  have k2 := HO2.out.c2
  go_wp2_with fail
  have hcall : Calls Try.prog 36 #[.agg #[.slice A1 sg.length c1, .slice A2 mt.length c2, .int .i64 L], .slice A3 xs.length c3] w2 (RenOk sg mt xs L w2) := by
    have := ren_ok A1 A2 A3 c1 c2 c3 sg mt xs L w2 (· < w2.heap.size) HO2.out.db.rs HO2.out.db.rm (HX2.out.imp fun b hb => Nat.lt_of_lt_of_le hb HB2.out.size) (fun _ h => h) HYES.out HP.out
    rwa [HP.out.1]
  refine hcall.mono ?_
  clear hcall
  rintro e w3 ⟨v1, v2, rfl, hf3, hb3⟩
  obtain ⟨X, d1, rfl, -, -, -⟩ := hf3.os.shape
  obtain ⟨Y, d2, rfl, -, -, -⟩ := hf3.om.shape
  rw [renS_length, renM_length] at hf3 ⊢
  have HF3 := Lib.hid hf3
  have HB3 := Lib.hid (HB2.out.trans (hb3.mono HB2.out.size))
  have HO3 := Lib.hid (HO2.out.call hb3)
  have hb4 := (Below.refl w3.heap.size w3).alloc (Nat.le_refl _) (.cells #[.slice X sg.length d1, .slice Y (4 * sg.length) d2, .int .i64 L] 24)
  have HB4 := Lib.hid (HB3.out.trans (hb4.mono HB3.out.size))
  have HN4 : Hid (NSt w (w3.alloc (.cells #[.slice X sg.length d1, .slice Y (4 * sg.length) d2, .int .i64 L] 24)) A1 A2 A3 c1 c2 sg mt xs L w3.heap.size (w3.heap.size + 1) X Y d1 d2 (renS sg xs) (renM mt xs sg.length)) := by
    obtain ⟨A, c', hv, -, -, hr⟩ := HF3.out.os.reads
    injection hv with e1 _ _
    subst e1
    obtain ⟨A', c'', hv', -, -, hr'⟩ := HF3.out.om.reads
    injection hv' with e1 _ _
    subst e1
    exact Lib.hid ⟨HO3.out.call hb4, KBox.new (renS_length _ _) (renM_length _ _ _) hr hr' (fun b h => h.2), (HX.out.below HB4.out).imp fun b hb => Nat.lt_succ_of_lt hb⟩
  obtain ⟨bx, hbx⟩ : ∃ b, w3.heap.size = b := ⟨_, rfl⟩
  clear hb3 hb4 hf3 k0 k1 k2 HO2 HB2 HO3 HB3 HX2 HF3
  have k0 := HN4.out.ko.c0
  have k1 := HN4.out.ko.c1
  have k2 := HN4.out.ko.c2
  go_wp2_with fail
  rw [hbx] at HN4
  clear hbx
  generalize w3.alloc (.cells #[.slice X sg.length d1, .slice Y (4 * sg.length) d2, .int .i64 L] 24) = w4 at *
  refine (rvalidK HN4.out.ko HL1.out HL2.out (decide_eq_true HYES.out)).mono ?_
  rintro e w5 ⟨rfl, hb5⟩
  have HB5 := Lib.hid (HB4.out.trans (hb5.mono HB4.out.size))
  have HN5 := Lib.hid (HN4.out.below hb5)
  clear hb5 k0 k1 k2 HB4 HN4
  have k0 := HN5.out.ko.c0
  go_wp2_with fail
  refine (isperm_yes A3 c3 sg.length xs _ (· < w.heap.size + 1) HN5.out.rx (by omega) HP.out).mono ?_
  rintro e w6 ⟨rfl, rfl⟩
  have k1 := HN5.out.ko.c1
  have k2 := HN5.out.ko.c2
  have k3 := HN5.out.kx.c0
  have k4 := HN5.out.kx.c1
  have k5 := HN5.out.kx.c2
  rw [renS_length] at k3
  rw [renM_length] at k4
  have HXN := Lib.hid HP.out.1
  go_wp2_with fail
  go_region_held3 (fun w' => Hid (NSt w w' A1 A2 A3 c1 c2 sg mt xs L bx (bx + 1) X Y d1 d2 (renS sg xs) (renM mt xs sg.length)) ∧ w'.cell? ⟨w.heap.size, 0, none⟩ = some (.slice A1 sg.length c1) ∧ w'.cell? ⟨w.heap.size, 1, none⟩ = some (.slice A2 mt.length c2) ∧ w'.cell? ⟨w.heap.size, 2, none⟩ = some (.int .i64 L) ∧ w'.cell? ⟨bx, 0, none⟩ = some (.slice X sg.length d1) ∧ w'.cell? ⟨bx, 1, none⟩ = some (.slice Y (4 * sg.length) d2) ∧ w'.cell? ⟨bx, 2, none⟩ = some (.int .i64 L))
    (first | exact keepN ⟨HN5, k0, k1, k2, k3, k4, k5⟩ (Below.refl _ _).drew | exact keepN (by assumption) hr2 | exact keepN (by assumption) hr1)
    (first
      | (go_at_call 38; ((refine (rrenT (by first | assumption | exact And.left (by assumption)) HYES HP HXN.out).mono ?_); rintro e9 wx ⟨B1, B2, e1, e2, rfl, R1, R2, hr1⟩))
      | (go_at_call 35; ((refine (equalT (by first | assumption | exact And.left (by assumption)) R1 R2 (renS_length _ _) (renM_length _ _ _) (by omega) (by omega)).mono ?_); rintro e9 wy ⟨rfl, hr2⟩)))
  have hall := ((Below.refl w6.heap.size w6).drew.trans hr1).trans (hr2.mono (by have := hr1.size; simp at this; omega))
  have HB9 := Lib.hid (HB5.out.trans (hall.mono HB5.out.size))
  clear hall hr1 hr2 R1 R2 k0 k1 k2 k3 k4 k5
  go_wp2_with fail
  go_ret
  exact ⟨rfl, HB9.out⟩
end

theorem diagramRenumbers_walk (A1 A2 : Option Addr) (c1 c2 : Nat) (sg mt : List Int) (L : Int) (A3 : Option Addr) (c3 : Nat) (xs : List Int) (w : World) (hd : DArg w A1 A2 sg mt L) (hx : RI w (· < w.heap.size) A3 xs) (_hxl : xs.length ≤ maxLen) (_hxb : ∀ k, -9223372036854775808 ≤ gi xs k ∧ gi xs k ≤ 9223372036854775807) :
    Calls Try.prog 9 #[.agg #[.slice A1 sg.length c1, .slice A2 mt.length c2, .int .i64 L], .slice A3 xs.length c3] w fun e w' => e = .returned (.bool true) ∧ Below w.heap.size w w' := by
  by_cases hg : 70 < sg.length ∨ 300 < mt.length
  · exact rnm_great A1 A2 c1 c2 sg mt L A3 c3 w hd _ hg
  by_cases hm : 100 < xs.length
  · exact rnm_long A1 A2 c1 c2 sg mt L A3 c3 w hd _ (by omega) (by omega) hm
  by_cases hI : IsD sg mt L
  · by_cases hP : PermI xs sg.length
    · exact rnm_ok A1 A2 c1 c2 sg mt L A3 c3 xs w hd hx (by omega) (by omega) hI hP
    · exact rnm_range A1 A2 c1 c2 sg mt L A3 c3 xs w hd hx (by omega) (by omega) hm hI hP
  · exact rnm_bad A1 A2 c1 c2 sg mt L A3 c3 xs w hd (by omega) (by omega) hm hI
end Go.Proofs.Ytkanpcdjhaepjaa
