/-
  The law DiagramLists, walked: the call returns true and writes nothing that was there.
-/
import Derived.Test.YtkanpcdjhaepjaaLawBase
import Derived.Test.YtkanpcdjhaepjaaGraph
import Derived.Test.YtkanpcdjhaepjaaRGraph
import Derived.Test.YtkanpcdjhaepjaaRComp
namespace Go.Proofs.Ytkanpcdjhaepjaa
open Go.RowKit

/-- the box and the three lists, in any later world -/
structure LSt (w0 w : World) (bd : Nat) (A1 A2 : Option Addr) (c1 c2 : Nat) (sg mt : List Int) (L : Int) (Aa Ag As : Option Addr) : Prop where
  db : DBox w bd A1 A2 c1 c2 sg mt L
  la : RL w (· < w.heap.size) Aa (rows (facesL mt))
  lg : RL w (· < w.heap.size) Ag (rows (graphL mt sg.length))
  ls : RL w (· < w.heap.size) As (rows (strandsL sg mt))
  bel : Below w0.heap.size w0 w

section
variable {w0 w w' : World} {bd : Nat} {A1 A2 : Option Addr} {c1 c2 : Nat} {sg mt : List Int} {L : Int} {Aa Ag As : Option Addr}
theorem LSt.below (h : LSt w0 w bd A1 A2 c1 c2 sg mt L Aa Ag As) (hb : Below w.heap.size w w') : LSt w0 w' bd A1 A2 c1 c2 sg mt L Aa Ag As :=
  ⟨h.db.below hb, (h.la.below hb).imp fun b hb' => by have := hb.size; omega, (h.lg.below hb).imp fun b hb' => by have := hb.size; omega, (h.ls.below hb).imp fun b hb' => by have := hb.size; omega, h.bel.trans (hb.mono h.bel.size)⟩
theorem LSt.drew (h : LSt w0 w bd A1 A2 c1 c2 sg mt L Aa Ag As) : LSt w0 w.drew bd A1 A2 c1 c2 sg mt L Aa Ag As := h.below (Below.refl _ _).drew
theorem ls_mk (h : LSt w0 w bd A1 A2 c1 c2 sg mt L Aa Ag As) :
    Hid (LSt w0 w bd A1 A2 c1 c2 sg mt L Aa Ag As) ∧ w.cell? ⟨bd, 0, none⟩ = some (.slice A1 sg.length c1) ∧ w.cell? ⟨bd, 1, none⟩ = some (.slice A2 mt.length c2) ∧ w.cell? ⟨bd, 2, none⟩ = some (.int .i64 L) := ⟨h, h.db.c0, h.db.c1, h.db.c2⟩
theorem ls_next (h : Hid (LSt w0 w bd A1 A2 c1 c2 sg mt L Aa Ag As)) (hb : Below w.heap.size w w') :
    Hid (LSt w0 w' bd A1 A2 c1 c2 sg mt L Aa Ag As) ∧ w'.cell? ⟨bd, 0, none⟩ = some (.slice A1 sg.length c1) ∧ w'.cell? ⟨bd, 1, none⟩ = some (.slice A2 mt.length c2) ∧ w'.cell? ⟨bd, 2, none⟩ = some (.int .i64 L) := ls_mk (h.out.below hb)
theorem ls_last {b : Nat} (_hb : Below b w w') (h : Hid (LSt w0 w' bd A1 A2 c1 c2 sg mt L Aa Ag As)) : Below w0.heap.size w0 w' := h.out.bel
theorem db_next (h : Hid (DBox w bd A1 A2 c1 c2 sg mt L)) (hb : Below w.heap.size w w') :
    Hid (DBox w' bd A1 A2 c1 c2 sg mt L) ∧ w'.cell? ⟨bd, 0, none⟩ = some (.slice A1 sg.length c1) ∧ w'.cell? ⟨bd, 1, none⟩ = some (.slice A2 mt.length c2) ∧ w'.cell? ⟨bd, 2, none⟩ = some (.int .i64 L) := db_mk (h.out.below hb)

theorem rr_lay {e : Ending} {v : Value} {xss : List (List Int)} {N : Nat} {F : Nat → Prop} {eo : TypeId} (he : e = .returned v) (h : RR eo w' N F v xss) (hb : Below w.heap.size w w') :
    ∃ A c, e = .returned (.slice A xss.length c) ∧ Hid (RL w' (· < w'.heap.size) A xss) ∧ Hid (xss.length ≤ maxLen) ∧ Below w.heap.size w w' := by
  obtain ⟨A, c, rfl, hl⟩ := h.reads
  obtain ⟨_, _, e1, h1, h2, -⟩ := h.shape
  cases e1
  exact ⟨A, c, he, Lib.hid (hl.imp fun b hb => hb.2), Lib.hid (Nat.le_trans h1 h2), hb⟩
theorem faceD_ok (h : Hid (DBox w bd A1 A2 c1 c2 sg mt L)) {k : Nat} (hk : Hid (k < mt.length)) (hd : Hid (IsD sg mt L)) :
    Calls Try.prog 24 #[.agg #[.slice A1 sg.length c1, .slice A2 mt.length c2, .int .i64 L], .int .i64 k] w fun e w' => ∃ v, e = .returned v ∧ OI w' w.heap.size v (ints (cyc (nxF mt) mt.length k)) ∧ Below w.heap.size w w' :=
  face_ok A1 A2 c1 c2 sg mt L w (· < w.heap.size) h.out.rs h.out.rm (fun _ h => h) k hk.out hd.out
theorem faceD_no (h : Hid (DBox w bd A1 A2 c1 c2 sg mt L)) {k : Int} (m1 : Hid (sg.length ≤ maxLen)) (m2 : Hid (mt.length ≤ maxLen)) (hk : Hid (k < 0 ∨ (mt.length : Int) ≤ k ∨ ¬ IsD sg mt L)) :
    Calls Try.prog 24 #[.agg #[.slice A1 sg.length c1, .slice A2 mt.length c2, .int .i64 L], .int .i64 k] w fun e w' => e = .returned (.slice none 0 0) ∧ Below w.heap.size w w' :=
  face_no A1 A2 c1 c2 sg mt L w (· < w.heap.size) h.out.rs h.out.rm (fun _ h => h) k m1.out m2.out hk.out
theorem facesD_ok (h : Hid (DBox w bd A1 A2 c1 c2 sg mt L)) (hd : Hid (IsD sg mt L)) :
    Calls Try.prog 20 #[.agg #[.slice A1 sg.length c1, .slice A2 mt.length c2, .int .i64 L]] w fun e w' => ∃ A c, e = .returned (.slice A (rows (facesL mt)).length c) ∧ Hid (RL w' (· < w'.heap.size) A (rows (facesL mt))) ∧ Hid ((rows (facesL mt)).length ≤ maxLen) ∧ Below w.heap.size w w' :=
  (faces_ok A1 A2 c1 c2 sg mt L w (· < w.heap.size) h.out.rs h.out.rm (fun _ h => h) hd.out).mono fun _ _ ⟨_, e, h, hb⟩ => rr_lay e h hb
theorem facesD_no (h : Hid (DBox w bd A1 A2 c1 c2 sg mt L)) (m1 : Hid (sg.length ≤ maxLen)) (m2 : Hid (mt.length ≤ maxLen)) (hd : Hid (¬ IsD sg mt L)) :
    Calls Try.prog 20 #[.agg #[.slice A1 sg.length c1, .slice A2 mt.length c2, .int .i64 L]] w fun e w' => e = .returned (.slice none 0 0) ∧ Below w.heap.size w w' :=
  faces_no A1 A2 c1 c2 sg mt L w (· < w.heap.size) h.out.rs h.out.rm (fun _ h => h) m1.out m2.out hd.out
theorem graphD_ok (h : Hid (DBox w bd A1 A2 c1 c2 sg mt L)) (hd : Hid (IsD sg mt L)) :
    Calls Try.prog 21 #[.agg #[.slice A1 sg.length c1, .slice A2 mt.length c2, .int .i64 L]] w fun e w' => ∃ A c, e = .returned (.slice A (rows (graphL mt sg.length)).length c) ∧ Hid (RL w' (· < w'.heap.size) A (rows (graphL mt sg.length))) ∧ Hid ((rows (graphL mt sg.length)).length ≤ maxLen) ∧ Below w.heap.size w w' :=
  (graph_ok A1 A2 c1 c2 sg mt L w (· < w.heap.size) h.out.rs h.out.rm (fun _ h => h) hd.out).mono fun _ _ ⟨_, e, h, hb⟩ => rr_lay e h hb
theorem graphD_no (h : Hid (DBox w bd A1 A2 c1 c2 sg mt L)) (m1 : Hid (sg.length ≤ maxLen)) (m2 : Hid (mt.length ≤ maxLen)) (hd : Hid (¬ IsD sg mt L)) :
    Calls Try.prog 21 #[.agg #[.slice A1 sg.length c1, .slice A2 mt.length c2, .int .i64 L]] w fun e w' => e = .returned (.slice none 0 0) ∧ Below w.heap.size w w' :=
  graph_no A1 A2 c1 c2 sg mt L w (· < w.heap.size) h.out.rs h.out.rm (fun _ h => h) m1.out m2.out hd.out
theorem strandsD_ok (h : Hid (DBox w bd A1 A2 c1 c2 sg mt L)) (hd : Hid (IsD sg mt L)) :
    Calls Try.prog 23 #[.agg #[.slice A1 sg.length c1, .slice A2 mt.length c2, .int .i64 L]] w fun e w' => ∃ A c, e = .returned (.slice A (rows (strandsL sg mt)).length c) ∧ Hid (RL w' (· < w'.heap.size) A (rows (strandsL sg mt))) ∧ Hid ((rows (strandsL sg mt)).length ≤ maxLen) ∧ Below w.heap.size w w' :=
  (strands_ok A1 A2 c1 c2 sg mt L w (· < w.heap.size) h.out.rs h.out.rm (fun _ h => h) hd.out).mono fun _ _ ⟨_, e, h, hb⟩ => rr_lay e h hb
theorem strandsD_no (h : Hid (DBox w bd A1 A2 c1 c2 sg mt L)) (m1 : Hid (sg.length ≤ maxLen)) (m2 : Hid (mt.length ≤ maxLen)) (hd : Hid (¬ IsD sg mt L)) :
    Calls Try.prog 23 #[.agg #[.slice A1 sg.length c1, .slice A2 mt.length c2, .int .i64 L]] w fun e w' => e = .returned (.slice none 0 0) ∧ Below w.heap.size w w' :=
  strands_no A1 A2 c1 c2 sg mt L w (· < w.heap.size) h.out.rs h.out.rm (fun _ h => h) m1.out m2.out hd.out
theorem rfacesD (h : Hid (LSt w0 w bd A1 A2 c1 c2 sg mt L Aa Ag As)) (hd : Hid (IsD sg mt L)) :
    Calls Try.prog 29 #[.slice A2 mt.length c2] w fun e w' => ∃ A c, e = .returned (.slice A (rows (facesL mt)).length c) ∧ Hid (RL w' (· < w'.heap.size) A (rows (facesL mt))) ∧ Hid ((rows (facesL mt)).length ≤ maxLen) ∧ Below w.heap.size w w' :=
  (rfaces_any A2 c2 sg.length mt w (· < w.heap.size) h.out.db.rm (fun _ h => h) hd.out.2.1 hd.out.2.2.2.2.2.1 (by have := hd.out.1; omega)).mono fun _ _ ⟨_, e, h, hb⟩ => rr_lay e h hb
theorem rgraphD (h : Hid (LSt w0 w bd A1 A2 c1 c2 sg mt L Aa Ag As)) (hd : Hid (IsD sg mt L)) :
    Calls Try.prog 30 #[.slice A2 mt.length c2] w fun e w' => ∃ A c, e = .returned (.slice A (rows (graphL mt sg.length)).length c) ∧ Hid (RL w' (· < w'.heap.size) A (rows (graphL mt sg.length))) ∧ Hid ((rows (graphL mt sg.length)).length ≤ maxLen) ∧ Below w.heap.size w w' :=
  (rgraph_any A2 c2 sg.length mt w (· < w.heap.size) h.out.db.rm (fun _ h => h) hd.out.2.1 hd.out.2.2.2.2.2.1 (by have := hd.out.1; omega)).mono fun _ _ ⟨_, e, h, hb⟩ => rr_lay e h hb
theorem rstrandsD (h : Hid (LSt w0 w bd A1 A2 c1 c2 sg mt L Aa Ag As)) (hd : Hid (IsD sg mt L)) :
    Calls Try.prog 31 #[.agg #[.slice A1 sg.length c1, .slice A2 mt.length c2, .int .i64 L]] w fun e w' => ∃ A c, e = .returned (.slice A (rows (strandsL sg mt)).length c) ∧ Hid (RL w' (· < w'.heap.size) A (rows (strandsL sg mt))) ∧ Hid ((rows (strandsL sg mt)).length ≤ maxLen) ∧ Below w.heap.size w w' :=
  (rstrands_any A1 A2 c1 c2 sg mt L w (· < w.heap.size) h.out.db.rs h.out.db.rm (fun _ h => h) hd.out).mono fun _ _ ⟨_, e, h, hb⟩ => rr_lay e h hb
theorem listsA (h : Hid (LSt w0 w bd A1 A2 c1 c2 sg mt L Aa Ag As)) {Ar : Option Addr} {ca cr : Nat} (h2 : Hid (RL w (· < w.heap.size) Ar (rows (facesL mt)))) (hm : Hid ((rows (facesL mt)).length ≤ maxLen)) :
    Calls Try.prog 28 #[.slice Aa (rows (facesL mt)).length ca, .slice Ar (rows (facesL mt)).length cr] w fun e w' => e = .returned (.bool true) ∧ Below w.heap.size w w' :=
  (rlists_is (· < w.heap.size) true h.out.la h2.out rfl rfl (by have := hm.out; unfold maxLen at this; omega) (decide_eq_true rfl)).mono fun _ _ ⟨e, n, hw⟩ => ⟨e, by subst hw; exact below_drewN (Below.refl _ _) n⟩
theorem listsG (h : Hid (LSt w0 w bd A1 A2 c1 c2 sg mt L Aa Ag As)) {Ar : Option Addr} {ca cr : Nat} (h2 : Hid (RL w (· < w.heap.size) Ar (rows (graphL mt sg.length)))) (hm : Hid ((rows (graphL mt sg.length)).length ≤ maxLen)) :
    Calls Try.prog 28 #[.slice Ag (rows (graphL mt sg.length)).length ca, .slice Ar (rows (graphL mt sg.length)).length cr] w fun e w' => e = .returned (.bool true) ∧ Below w.heap.size w w' :=
  (rlists_is (· < w.heap.size) true h.out.lg h2.out rfl rfl (by have := hm.out; unfold maxLen at this; omega) (decide_eq_true rfl)).mono fun _ _ ⟨e, n, hw⟩ => ⟨e, by subst hw; exact below_drewN (Below.refl _ _) n⟩
theorem listsS (h : Hid (LSt w0 w bd A1 A2 c1 c2 sg mt L Aa Ag As)) {Ar : Option Addr} {ca cr : Nat} (h2 : Hid (RL w (· < w.heap.size) Ar (rows (strandsL sg mt)))) (hm : Hid ((rows (strandsL sg mt)).length ≤ maxLen)) :
    Calls Try.prog 28 #[.slice As (rows (strandsL sg mt)).length ca, .slice Ar (rows (strandsL sg mt)).length cr] w fun e w' => e = .returned (.bool true) ∧ Below w.heap.size w w' :=
  (rlists_is (· < w.heap.size) true h.out.ls h2.out rfl rfl (by have := hm.out; unfold maxLen at this; omega) (decide_eq_true rfl)).mono fun _ _ ⟨e, n, hw⟩ => ⟨e, by subst hw; exact below_drewN (Below.refl _ _) n⟩
theorem compD (h : Hid (LSt w0 w bd A1 A2 c1 c2 sg mt L Aa Ag As)) (hd : Hid (IsD sg mt L)) :
    Calls Try.prog 25 #[.agg #[.slice A1 sg.length c1, .slice A2 mt.length c2, .int .i64 L]] w fun e w' => e = .returned (.int .i64 (((strandsL sg mt).length : Int) + L)) ∧ Below w.heap.size w w' :=
  components_ok A1 A2 c1 c2 sg mt L w (· < w.heap.size) h.out.db.rs h.out.db.rm (fun _ h => h) hd.out
theorem rcompD (h : Hid (LSt w0 w bd A1 A2 c1 c2 sg mt L Aa Ag As)) (hd : Hid (IsD sg mt L)) :
    Calls Try.prog 32 #[.agg #[.slice A1 sg.length c1, .slice A2 mt.length c2, .int .i64 L]] w fun e w' => e = .returned (.int .i64 (((strandsL sg mt).length : Int) + L)) ∧ Below w.heap.size w w' :=
  rcomponents_ok A1 A2 c1 c2 sg mt L w (· < w.heap.size) h.out.db.rs h.out.db.rm (fun _ h => h) hd.out
end

section
variable (A1 A2 : Option Addr) (c1 c2 : Nat) (sg mt : List Int) (L : Int) (w : World) (hd : DArg w A1 A2 sg mt L)
include hd

set_option maxHeartbeats 2000000 in
theorem lists_great (h : Int) (hg : 70 < sg.length ∨ 300 < mt.length) :
    Calls Try.prog 7 #[.agg #[.slice A1 sg.length c1, .slice A2 mt.length c2, .int .i64 L], .int .i64 h] w fun e w' => e = .returned (.bool true) ∧ Below w.heap.size w w' := by
  have HD := Lib.hid (DBox.start (c1 := c1) (c2 := c2) (L := L) (· < w.heap.size) hd.rs hd.rm (fun _ h => h))
  have HG := Lib.hid hg
  clear hd hg
  go_enter Try.func7, Try.ntmps7
  go_wp2_with fail
  refine (awake_any _).mono ?_
  rintro e w1 ⟨rfl, hb1⟩
  have HD1 := Lib.hid (HD.out.below hb1)
  have k0 := HD1.out.c0
  have k1 := HD1.out.c1
  have k2 := HD1.out.c2
  have HB1 := Lib.hid (below_box (o := .cells #[.slice A1 sg.length c1, .slice A2 mt.length c2, .int .i64 L] 24) (by simpa using hb1))
  clear hb1
  go_wp2_with fail
  refine (great_yes A1 A2 c1 c2 sg mt L w1 HG.out).mono ?_
  rintro e w2 ⟨rfl, hb2⟩
  have HB2 := Lib.hid (HB1.out.trans (hb2.mono HB1.out.size))
  clear hb2 k0 k1 k2
  go_wp2_with fail
  go_ret
  exact ⟨rfl, HB2.out⟩

set_option maxHeartbeats 4000000 in
theorem lists_no (h : Int) (hg1 : ¬ 70 < sg.length) (hg2 : ¬ 300 < mt.length) (hno : ¬ IsD sg mt L) :
    Calls Try.prog 7 #[.agg #[.slice A1 sg.length c1, .slice A2 mt.length c2, .int .i64 L], .int .i64 h] w fun e w' => e = .returned (.bool true) ∧ Below w.heap.size w w' := by
  have HD := Lib.hid (DBox.start (c1 := c1) (c2 := c2) (L := L) (· < w.heap.size) hd.rs hd.rm (fun _ h => h))
  have HL1 := Lib.hid hd.ls
  have HL2 := Lib.hid hd.lm
  have HG1 := Lib.hid hg1
  have HG2 := Lib.hid hg2
  have HNO := Lib.hid hno
  have HFN : Hid (h < 0 ∨ (mt.length : Int) ≤ h ∨ ¬ IsD sg mt L) := .inr (.inr hno)
  clear hd hg1 hg2 hno
  go_enter Try.func7, Try.ntmps7
  go_wp2_with fail
  refine (awake_any _).mono ?_
  rintro e w1 ⟨rfl, hb1⟩
  have HD1 := Lib.hid (HD.out.below hb1)
  have k0 := HD1.out.c0
  have k1 := HD1.out.c1
  have k2 := HD1.out.c2
  have HB1 := Lib.hid (below_box (o := .cells #[.slice A1 sg.length c1, .slice A2 mt.length c2, .int .i64 L] 24) (by simpa using hb1))
  clear hb1
  go_wp2_with fail
  refine (great_no A1 A2 c1 c2 sg mt L w1 HG1.out HG2.out).mono ?_
  rintro e w2 ⟨rfl, hb2⟩
  have HB2 := Lib.hid (HB1.out.trans (hb2.mono HB1.out.size))
  have HD2 := Lib.hid (HD1.out.below hb2)
  clear hb2 k0 k1 k2 HD HD1 HB1
  go_wp2_with fail
  go_region_held3 (fun w' => Hid (DBox w' w.heap.size A1 A2 c1 c2 sg mt L) ∧ w'.cell? ⟨w.heap.size, 0, none⟩ = some (.slice A1 sg.length c1) ∧ w'.cell? ⟨w.heap.size, 1, none⟩ = some (.slice A2 mt.length c2) ∧ w'.cell? ⟨w.heap.size, 2, none⟩ = some (.int .i64 L))
    (first | exact db_mk HD2.out.drew | exact db_next (by first | assumption | exact And.left (by assumption)) hbd | exact db_next (by first | assumption | exact And.left (by assumption)) hbc | exact db_next (by first | assumption | exact And.left (by assumption)) hbb | exact db_next (by first | assumption | exact And.left (by assumption)) hba)
    (first
      | (go_at_call 24; ((refine (faceD_no (by first | assumption | exact And.left (by assumption)) HL1 HL2 HFN).mono ?_); rintro e9 wa ⟨rfl, hba⟩))
      | (go_at_call 20; ((refine (facesD_no (by first | assumption | exact And.left (by assumption)) HL1 HL2 HNO).mono ?_); rintro e9 wb ⟨rfl, hbb⟩))
      | (go_at_call 21; ((refine (graphD_no (by first | assumption | exact And.left (by assumption)) HL1 HL2 HNO).mono ?_); rintro e9 wc ⟨rfl, hbc⟩))
      | (go_at_call 23; ((refine (strandsD_no (by first | assumption | exact And.left (by assumption)) HL1 HL2 HNO).mono ?_); rintro e9 wd ⟨rfl, hbd⟩)))
  have hab := (((hba.trans (hbb.mono hba.size)).trans (hbc.mono (by have := hba.size; have := hbb.size; omega))).trans (hbd.mono (by have := hba.size; have := hbb.size; have := hbc.size; omega)))
  have HBd := Lib.hid ((HB2.out.drew).trans (hab.mono (HB2.out.drew).size))
  have HDd := Lib.hid ((HD2.out.drew).below hab)
  clear hba hbb hbc hbd hab
  have k0 := HDd.out.c0
  have k1 := HDd.out.c1
  have k2 := HDd.out.c2
  go_wp2_with fail
  refine (rvalid_is (· < wd.heap.size) false HDd.out.rs HDd.out.rm (fun _ h => h) HL1.out HL2.out (decide_eq_false HNO.out)).mono ?_
  rintro e w3 ⟨rfl, hb3⟩
  have HD3 := Lib.hid (HDd.out.below hb3)
  have HB3 := Lib.hid (HBd.out.trans (hb3.mono HBd.out.size))
  clear hb3 k0 k1 k2
  have k0 := HD3.out.c0
  have k1 := HD3.out.c1
  have k2 := HD3.out.c2
  go_wp2_with fail
  refine (components_no A1 A2 c1 c2 sg mt L w3 (· < w3.heap.size) HD3.out.rs HD3.out.rm (fun _ h => h) HL1.out HL2.out HNO.out).mono ?_
  rintro e w4 ⟨rfl, hb4⟩
  have HB4 := Lib.hid (HB3.out.trans (hb4.mono HB3.out.size))
  clear hb4 k0 k1 k2
  go_wp2_with fail
  go_ret
  exact ⟨rfl, HB4.out⟩

set_option maxHeartbeats 4000000 in
theorem lists_in (h : Int) (k : Nat) (hk : h = k) (hk2 : k < mt.length) (hg1 : ¬ 70 < sg.length) (hg2 : ¬ 300 < mt.length) (hyes : IsD sg mt L) :
    Calls Try.prog 7 #[.agg #[.slice A1 sg.length c1, .slice A2 mt.length c2, .int .i64 L], .int .i64 h] w fun e w' => e = .returned (.bool true) ∧ Below w.heap.size w w' := by
  subst hk
  have HD := Lib.hid (DBox.start (c1 := c1) (c2 := c2) (L := L) (· < w.heap.size) hd.rs hd.rm (fun _ h => h))
  have HL1 := Lib.hid hd.ls
  have HL2 := Lib.hid hd.lm
  have HG1 := Lib.hid hg1
  have HG2 := Lib.hid hg2
  have HYES := Lib.hid hyes
  have HK := Lib.hid hk2
  clear hd hg1 hg2 hyes
  go_enter Try.func7, Try.ntmps7
  go_wp2_with fail
  refine (awake_any _).mono ?_
  rintro e w1 ⟨rfl, hb1⟩
  have HD1 := Lib.hid (HD.out.below hb1)
  have k0 := HD1.out.c0
  have k1 := HD1.out.c1
  have k2 := HD1.out.c2
  have HB1 := Lib.hid (below_box (o := .cells #[.slice A1 sg.length c1, .slice A2 mt.length c2, .int .i64 L] 24) (by simpa using hb1))
  clear hb1
  go_wp2_with fail
  refine (great_no A1 A2 c1 c2 sg mt L w1 HG1.out HG2.out).mono ?_
  rintro e w2 ⟨rfl, hb2⟩
  have HB2 := Lib.hid (HB1.out.trans (hb2.mono HB1.out.size))
  have HD2 := Lib.hid (HD1.out.below hb2)
  clear hb2 k0 k1 k2 HD HD1 HB1
  go_wp2_with fail
  go_region_held3 (fun w' => Hid (DBox w' w.heap.size A1 A2 c1 c2 sg mt L) ∧ w'.cell? ⟨w.heap.size, 0, none⟩ = some (.slice A1 sg.length c1) ∧ w'.cell? ⟨w.heap.size, 1, none⟩ = some (.slice A2 mt.length c2) ∧ w'.cell? ⟨w.heap.size, 2, none⟩ = some (.int .i64 L))
    (first | exact db_mk HD2.out.drew | exact db_next (by first | assumption | exact And.left (by assumption)) hbd | exact db_next (by first | assumption | exact And.left (by assumption)) hbc | exact db_next (by first | assumption | exact And.left (by assumption)) hbb | exact db_next (by first | assumption | exact And.left (by assumption)) hba)
    (first
      | (go_at_call 24; ((refine (faceD_ok (by first | assumption | exact And.left (by assumption)) HK HYES).mono ?_); rintro e9 wa ⟨vf, rfl, hof, hba⟩; obtain ⟨Af, cf, rfl, hf1, hf2, hf3⟩ := hof.reads))
      | (go_at_call 20; ((refine (facesD_ok (by first | assumption | exact And.left (by assumption)) HYES).mono ?_); rintro e9 wb ⟨Aa, ca, rfl, hla, hma, hbb⟩))
      | (go_at_call 21; ((refine (graphD_ok (by first | assumption | exact And.left (by assumption)) HYES).mono ?_); rintro e9 wc ⟨Ag, cg, rfl, hlg, hmg, hbc⟩))
      | (go_at_call 23; ((refine (strandsD_ok (by first | assumption | exact And.left (by assumption)) HYES).mono ?_); rintro e9 wd ⟨As, cs, rfl, hls, hms, hbd⟩)))
  have s1 := hba.size
  have s2 := hbb.size
  have s3 := hbc.size
  have s4 := hbd.size
  have hab := (((hba.trans (hbb.mono hba.size)).trans (hbc.mono (by omega))).trans (hbd.mono (by omega)))
  have HBd := Lib.hid ((HB2.out.drew).trans (hab.mono (HB2.out.drew).size))
  have HLS : Hid (LSt w wd w.heap.size A1 A2 c1 c2 sg mt L Aa Ag As) := Lib.hid ⟨(HD2.out.drew).below hab, (hla.out.below (hbc.trans (hbd.mono s3))).imp fun b hb' => by omega, (hlg.out.below hbd).imp fun b hb' => by omega, hls.out, HBd.out⟩
  have HRF := Lib.hid ((hf3.imp (T := (· < wa.heap.size)) fun b hb => hb.2).below (hbb.trans ((hbc.mono s2).trans (hbd.mono (by omega)))))
  have HFL := Lib.hid (Nat.le_trans hf1 hf2)
  have hsad : wa.heap.size ≤ wd.heap.size := by omega
  have HD3 := Lib.hid HLS.out.db
  have k0 := HD3.out.c0
  have k1 := HD3.out.c1
  have k2 := HD3.out.c2
  clear hof hf1 hf2 hf3 hba HD2 HBd hab hbb hbc hbd hla hlg hls s1 s2 s3 s4
  go_wp2_with fail
  refine (rvalid_is (· < wd.heap.size) true HD3.out.rs HD3.out.rm (fun _ h => h) HL1.out HL2.out (decide_eq_true HYES.out)).mono ?_
  rintro e w3 ⟨rfl, hb3⟩
  have HL3 := Lib.hid (HLS.out.below hb3)
  clear k0 k1 k2 HLS HD3
  have k0 := HL3.out.db.c0
  have k1 := HL3.out.db.c1
  have k2 := HL3.out.db.c2
  have hs3 := hb3.size
  have HRF3 := Lib.hid (HRF.out.keep fun b hb => hb3.block b (by omega))
  clear hb3 HRF
  have q1 : decide ((k : Int) < 0) = false := decide_eq_false (by omega)
  have q2 : decide ((mt.length : Int) ≤ k) = false := decide_eq_false (by have := HK.out; omega)
  go_wp2_with fail
  refine (rface_any A2 c2 sg.length k mt w3 (· < w3.heap.size) HL3.out.db.rm (fun _ h => h) HYES.out.2.1 HYES.out.2.2.2.2.2.1 (by have := HYES.out.1; omega) HK.out).mono ?_
  rintro e w4 ⟨v4, rfl, ho4, hb4⟩
  obtain ⟨A4, c4, rfl, hf4, hg4, hi4⟩ := ho4.reads
  have HL4 := Lib.hid (HL3.out.below hb4)
  have HRF4 := Lib.hid (HRF3.out.keep fun b hb => hb4.block b (by omega))
  have HRX := Lib.hid hi4
  have HML := Lib.hid (Nat.le_trans hf4 hg4)
  clear k0 k1 k2 HL3 HRF3 hb4 ho4 hf4 hg4 hi4 q1 q2
  go_wp2_with fail
  refine (ints_is _ _ true HRF4.out HRX.out rfl rfl HFL.out HML.out (decide_eq_true rfl)).mono ?_
  rintro e w5 ⟨rfl, n5, hw5⟩
  have HL5 := Lib.hid (HL4.out.below (show Below w4.heap.size w4 w5 from by subst hw5; exact below_drewN (Below.refl _ _) n5))
  clear hw5 HL4 HRF4 HRX
  have k0 := HL5.out.db.c0
  have k1 := HL5.out.db.c1
  have k2 := HL5.out.db.c2
  go_wp2_with fail
  go_region_held3 (fun w' => Hid (LSt w w' w.heap.size A1 A2 c1 c2 sg mt L Aa Ag As) ∧ w'.cell? ⟨w.heap.size, 0, none⟩ = some (.slice A1 sg.length c1) ∧ w'.cell? ⟨w.heap.size, 1, none⟩ = some (.slice A2 mt.length c2) ∧ w'.cell? ⟨w.heap.size, 2, none⟩ = some (.int .i64 L))
    (first | exact ls_mk HL5.out.drew | exact ls_next (by first | assumption | exact And.left (by assumption)) hr8 | exact ls_next (by first | assumption | exact And.left (by assumption)) hr7 | exact ls_next (by first | assumption | exact And.left (by assumption)) hr6 | exact ls_next (by first | assumption | exact And.left (by assumption)) hr5 | exact ls_next (by first | assumption | exact And.left (by assumption)) hr4 | exact ls_next (by first | assumption | exact And.left (by assumption)) hr3 | exact ls_next (by first | assumption | exact And.left (by assumption)) hr2 | exact ls_next (by first | assumption | exact And.left (by assumption)) hr1)
    (first
      | (go_at_call 29; ((refine (rfacesD (by first | assumption | exact And.left (by assumption)) HYES).mono ?_); rintro e9 wr1 ⟨Ar1, cr1, rfl, hlr1, hmr1, hr1⟩))
      | (go_at_call 28; (with_reducible (show Calls _ _ #[Value.slice Aa _ _, _] _ _)); ((refine (listsA (by first | assumption | exact And.left (by assumption)) hlr1 hmr1).mono ?_); rintro e9 wr2 ⟨rfl, hr2⟩))
      | (go_at_call 30; ((refine (rgraphD (by first | assumption | exact And.left (by assumption)) HYES).mono ?_); rintro e9 wr3 ⟨Ar3, cr3, rfl, hlr3, hmr3, hr3⟩))
      | (go_at_call 28; (with_reducible (show Calls _ _ #[Value.slice Ag _ _, _] _ _)); ((refine (listsG (by first | assumption | exact And.left (by assumption)) hlr3 hmr3).mono ?_); rintro e9 wr4 ⟨rfl, hr4⟩))
      | (go_at_call 31; ((refine (rstrandsD (by first | assumption | exact And.left (by assumption)) HYES).mono ?_); rintro e9 wr5 ⟨Ar5, cr5, rfl, hlr5, hmr5, hr5⟩))
      | (go_at_call 28; (with_reducible (show Calls _ _ #[Value.slice As _ _, _] _ _)); ((refine (listsS (by first | assumption | exact And.left (by assumption)) hlr5 hmr5).mono ?_); rintro e9 wr6 ⟨rfl, hr6⟩))
      | (go_at_call 25; ((refine (compD (by first | assumption | exact And.left (by assumption)) HYES).mono ?_); rintro e9 wr7 ⟨rfl, hr7⟩))
      | (go_at_call 32; ((refine (rcompD (by first | assumption | exact And.left (by assumption)) HYES).mono ?_); rintro e9 wr8 ⟨rfl, hr8⟩)))
  have HE := Lib.hid (ls_last hr8 (by first | assumption | exact And.left (by assumption)))
  clear hr1 hr2 hr3 hr4 hr5 hr6 hr7
  go_wp2_with fail
  go_ret
  exact ⟨rfl, HE.out⟩

set_option maxHeartbeats 4000000 in
theorem lists_out (h : Int) (hr : h < 0 ∨ (mt.length : Int) ≤ h) (hg1 : ¬ 70 < sg.length) (hg2 : ¬ 300 < mt.length) (hyes : IsD sg mt L) :
    Calls Try.prog 7 #[.agg #[.slice A1 sg.length c1, .slice A2 mt.length c2, .int .i64 L], .int .i64 h] w fun e w' => e = .returned (.bool true) ∧ Below w.heap.size w w' := by
  have HD := Lib.hid (DBox.start (c1 := c1) (c2 := c2) (L := L) (· < w.heap.size) hd.rs hd.rm (fun _ h => h))
  have HL1 := Lib.hid hd.ls
  have HL2 := Lib.hid hd.lm
  have HG1 := Lib.hid hg1
  have HG2 := Lib.hid hg2
  have HYES := Lib.hid hyes
  have HFN : Hid (h < 0 ∨ (mt.length : Int) ≤ h ∨ ¬ IsD sg mt L) := by rcases hr with hr | hr <;> simp [Hid, hr]
  have HR := Lib.hid hr
  clear hd hg1 hg2 hyes hr
  go_enter Try.func7, Try.ntmps7
  go_wp2_with fail
  refine (awake_any _).mono ?_
  rintro e w1 ⟨rfl, hb1⟩
  have HD1 := Lib.hid (HD.out.below hb1)
  have k0 := HD1.out.c0
  have k1 := HD1.out.c1
  have k2 := HD1.out.c2
  have HB1 := Lib.hid (below_box (o := .cells #[.slice A1 sg.length c1, .slice A2 mt.length c2, .int .i64 L] 24) (by simpa using hb1))
  clear hb1
  go_wp2_with fail
  refine (great_no A1 A2 c1 c2 sg mt L w1 HG1.out HG2.out).mono ?_
  rintro e w2 ⟨rfl, hb2⟩
  have HB2 := Lib.hid (HB1.out.trans (hb2.mono HB1.out.size))
  have HD2 := Lib.hid (HD1.out.below hb2)
  clear hb2 k0 k1 k2 HD HD1 HB1
  go_wp2_with fail
  go_region_held3 (fun w' => Hid (DBox w' w.heap.size A1 A2 c1 c2 sg mt L) ∧ w'.cell? ⟨w.heap.size, 0, none⟩ = some (.slice A1 sg.length c1) ∧ w'.cell? ⟨w.heap.size, 1, none⟩ = some (.slice A2 mt.length c2) ∧ w'.cell? ⟨w.heap.size, 2, none⟩ = some (.int .i64 L))
    (first | exact db_mk HD2.out.drew | exact db_next (by first | assumption | exact And.left (by assumption)) hbd | exact db_next (by first | assumption | exact And.left (by assumption)) hbc | exact db_next (by first | assumption | exact And.left (by assumption)) hbb | exact db_next (by first | assumption | exact And.left (by assumption)) hba)
    (first
      | (go_at_call 24; ((refine (faceD_no (by first | assumption | exact And.left (by assumption)) HL1 HL2 HFN).mono ?_); rintro e9 wa ⟨rfl, hba⟩))
      | (go_at_call 20; ((refine (facesD_ok (by first | assumption | exact And.left (by assumption)) HYES).mono ?_); rintro e9 wb ⟨Aa, ca, rfl, hla, hma, hbb⟩))
      | (go_at_call 21; ((refine (graphD_ok (by first | assumption | exact And.left (by assumption)) HYES).mono ?_); rintro e9 wc ⟨Ag, cg, rfl, hlg, hmg, hbc⟩))
      | (go_at_call 23; ((refine (strandsD_ok (by first | assumption | exact And.left (by assumption)) HYES).mono ?_); rintro e9 wd ⟨As, cs, rfl, hls, hms, hbd⟩)))
  have s1 := hba.size
  have s2 := hbb.size
  have s3 := hbc.size
  have s4 := hbd.size
  have hab := (((hba.trans (hbb.mono hba.size)).trans (hbc.mono (by omega))).trans (hbd.mono (by omega)))
  have HBd := Lib.hid ((HB2.out.drew).trans (hab.mono (HB2.out.drew).size))
  have HLS : Hid (LSt w wd w.heap.size A1 A2 c1 c2 sg mt L Aa Ag As) := Lib.hid ⟨(HD2.out.drew).below hab, (hla.out.below (hbc.trans (hbd.mono s3))).imp fun b hb' => by omega, (hlg.out.below hbd).imp fun b hb' => by omega, hls.out, HBd.out⟩
  have HD3 := Lib.hid HLS.out.db
  have k0 := HD3.out.c0
  have k1 := HD3.out.c1
  have k2 := HD3.out.c2
  clear hba HD2 HBd hab hbb hbc hbd hla hlg hls s1 s2 s3 s4
  go_wp2_with fail
  refine (rvalid_is (· < wd.heap.size) true HD3.out.rs HD3.out.rm (fun _ h => h) HL1.out HL2.out (decide_eq_true HYES.out)).mono ?_
  rintro e w3 ⟨rfl, hb3⟩
  have HL3 := Lib.hid (HLS.out.below hb3)
  clear k0 k1 k2 HLS HD3
  have k0 := HL3.out.db.c0
  have k1 := HL3.out.db.c1
  have k2 := HL3.out.db.c2
  clear hb3
  go_wp2_with fail
  all_goals first | (exfalso; have := HR.out; omega) | skip
  all_goals (
    go_region_held3 (fun w' => Hid (LSt w w' w.heap.size A1 A2 c1 c2 sg mt L Aa Ag As) ∧ w'.cell? ⟨w.heap.size, 0, none⟩ = some (.slice A1 sg.length c1) ∧ w'.cell? ⟨w.heap.size, 1, none⟩ = some (.slice A2 mt.length c2) ∧ w'.cell? ⟨w.heap.size, 2, none⟩ = some (.int .i64 L))
      (first | exact ls_mk HL3.out.drew | exact ls_next (by first | assumption | exact And.left (by assumption)) hr8 | exact ls_next (by first | assumption | exact And.left (by assumption)) hr7 | exact ls_next (by first | assumption | exact And.left (by assumption)) hr6 | exact ls_next (by first | assumption | exact And.left (by assumption)) hr5 | exact ls_next (by first | assumption | exact And.left (by assumption)) hr4 | exact ls_next (by first | assumption | exact And.left (by assumption)) hr3 | exact ls_next (by first | assumption | exact And.left (by assumption)) hr2 | exact ls_next (by first | assumption | exact And.left (by assumption)) hr1)
      (first
        | (go_at_call 29; ((refine (rfacesD (by first | assumption | exact And.left (by assumption)) HYES).mono ?_); rintro e9 wr1 ⟨Ar1, cr1, rfl, hlr1, hmr1, hr1⟩))
        | (go_at_call 28; (with_reducible (show Calls _ _ #[Value.slice Aa _ _, _] _ _)); ((refine (listsA (by first | assumption | exact And.left (by assumption)) hlr1 hmr1).mono ?_); rintro e9 wr2 ⟨rfl, hr2⟩))
        | (go_at_call 30; ((refine (rgraphD (by first | assumption | exact And.left (by assumption)) HYES).mono ?_); rintro e9 wr3 ⟨Ar3, cr3, rfl, hlr3, hmr3, hr3⟩))
        | (go_at_call 28; (with_reducible (show Calls _ _ #[Value.slice Ag _ _, _] _ _)); ((refine (listsG (by first | assumption | exact And.left (by assumption)) hlr3 hmr3).mono ?_); rintro e9 wr4 ⟨rfl, hr4⟩))
        | (go_at_call 31; ((refine (rstrandsD (by first | assumption | exact And.left (by assumption)) HYES).mono ?_); rintro e9 wr5 ⟨Ar5, cr5, rfl, hlr5, hmr5, hr5⟩))
        | (go_at_call 28; (with_reducible (show Calls _ _ #[Value.slice As _ _, _] _ _)); ((refine (listsS (by first | assumption | exact And.left (by assumption)) hlr5 hmr5).mono ?_); rintro e9 wr6 ⟨rfl, hr6⟩))
        | (go_at_call 25; ((refine (compD (by first | assumption | exact And.left (by assumption)) HYES).mono ?_); rintro e9 wr7 ⟨rfl, hr7⟩))
        | (go_at_call 32; ((refine (rcompD (by first | assumption | exact And.left (by assumption)) HYES).mono ?_); rintro e9 wr8 ⟨rfl, hr8⟩)))
    have HE := Lib.hid (ls_last hr8 (by first | assumption | exact And.left (by assumption)))
    clear hr1 hr2 hr3 hr4 hr5 hr6 hr7
    go_wp2_with fail
    go_ret
    exact ⟨rfl, HE.out⟩
  )
end

theorem diagramLists_walk (A1 A2 : Option Addr) (c1 c2 : Nat) (sg mt : List Int) (L h : Int) (w : World) (hd : DArg w A1 A2 sg mt L) (_hh : (Lit.int .i64 h).wf = true) :
    Calls Try.prog 7 #[.agg #[.slice A1 sg.length c1, .slice A2 mt.length c2, .int .i64 L], .int .i64 h] w fun e w' => e = .returned (.bool true) ∧ Below w.heap.size w w' := by
  by_cases hg : 70 < sg.length ∨ 300 < mt.length
  · exact lists_great A1 A2 c1 c2 sg mt L w hd h hg
  by_cases hI : IsD sg mt L
  · by_cases hr : h < 0 ∨ (mt.length : Int) ≤ h
    · exact lists_out A1 A2 c1 c2 sg mt L w hd h hr (by omega) (by omega) hI
    · exact lists_in A1 A2 c1 c2 sg mt L w hd h h.toNat (by omega) (by omega) (by omega) (by omega) hI
  · exact lists_no A1 A2 c1 c2 sg mt L w hd h (by omega) (by omega) hI
end Go.Proofs.Ytkanpcdjhaepjaa
