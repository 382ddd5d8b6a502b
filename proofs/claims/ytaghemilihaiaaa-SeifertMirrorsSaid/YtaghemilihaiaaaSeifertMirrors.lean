/-
  The law SeifertMirrors, walked: the call returns true and writes nothing that was there.
-/
import Derived.Test.YtaghemilihaiaaaAw32
import Derived.Test.YtaghemilihaiaaaSInc
import Derived.Test.YtaghemilihaiaaaSMirM
import Derived.Test.YtaghemilihaiaaaSeif
import Derived.Test.YtaghemilihaiaaaDArg
namespace Go.Proofs.Ytaghemilihaiaaa
open Go.RowKit

theorem fresh_box {w : World} {B : Nat} {B1 B2 : Option Addr} {d1 d2 : Nat} {q r : List Int} (L : Int) (hF : Fresh w B (.slice B1 q.length d1) (.slice B2 r.length d2) q r) :
    DBox (w.alloc (.cells #[.slice B1 q.length d1, .slice B2 r.length d2, .int .i64 L] 24)) w.heap.size B1 B2 d1 d2 q r L := by
  obtain ⟨A, c, hv, -, -, hr⟩ := hF.os.reads
  injection hv with e1 _ _
  subst e1
  obtain ⟨A', c', hv', -, -, hr'⟩ := hF.om.reads
  injection hv' with e1 _ _
  subst e1
  exact DBox.start (· < w.heap.size) (hr.imp fun b h => h.2) (hr'.imp fun b h => h.2) (fun _ h => h)
/-- one of three -/
def s3 {α : Type} (a b c : α) (k : Nat) : α := if k = 0 then a else if k = 1 then b else c
theorem s3_all {α : Type} {P : α → Prop} {a b c : α} (ha : P a) (hb : P b) (hc : P c) (k : Nat) : P (s3 a b c k) := by
  unfold s3; split
  · exact ha
  · split <;> assumption
/-- the list of the three images -/
structure MrS (w0 W : World) (gs : Nat) (B1 B2 : Nat → Option Addr) (d1 d2 : Nat → Nat) (qs rs : Nat → List Int) (L : Int) : Prop where
  c0 : ∀ k, k < 3 → W.cell? ⟨gs, k * 3, none⟩ = some (.slice (B1 k) (qs k).length (d1 k))
  c1 : ∀ k, k < 3 → W.cell? ⟨gs, k * 3 + 1, none⟩ = some (.slice (B2 k) (rs k).length (d2 k))
  c2 : ∀ k, k < 3 → W.cell? ⟨gs, k * 3 + 2, none⟩ = some (.int .i64 L)
  rq : ∀ k, RI W (· < W.heap.size) (B1 k) (qs k)
  rr : ∀ k, RI W (· < W.heap.size) (B2 k) (rs k)
  lt : gs < W.heap.size
  bel : Below w0.heap.size w0 W
theorem MrS.call {w0 W W' : World} {gs : Nat} {B1 B2 : Nat → Option Addr} {d1 d2 : Nat → Nat} {qs rs : Nat → List Int} {L : Int} (h : MrS w0 W gs B1 B2 d1 d2 qs rs L) (hb : Below W.heap.size W W') : MrS w0 W' gs B1 B2 d1 d2 qs rs L :=
  ⟨fun k hk => (World.cell?_of_block (a := ⟨gs, k * 3, none⟩) (hb.block gs h.lt)).trans (h.c0 k hk), fun k hk => (World.cell?_of_block (a := ⟨gs, k * 3 + 1, none⟩) (hb.block gs h.lt)).trans (h.c1 k hk), fun k hk => (World.cell?_of_block (a := ⟨gs, k * 3 + 2, none⟩) (hb.block gs h.lt)).trans (h.c2 k hk),
    fun k => ((h.rq k).below hb).imp fun _ hb' => Nat.lt_of_lt_of_le hb' hb.size, fun k => ((h.rr k).below hb).imp fun _ hb' => Nat.lt_of_lt_of_le hb' hb.size, Nat.lt_of_lt_of_le h.lt hb.size, h.bel.trans (hb.mono h.bel.size)⟩
section
variable (A1 A2 : Option Addr) (c1 c2 : Nat) (sg mt : List Int) (L : Int) (w : World) (hd : DArg w A1 A2 sg mt L)
include hd

set_option maxHeartbeats 2000000 in
theorem smi_great (hg : 14 < sg.length ∨ 80 < mt.length) :
    Calls Try.prog 10 #[.agg #[.slice A1 sg.length c1, .slice A2 mt.length c2, .int .i64 L]] w fun e w' => e = .returned (.bool true) ∧ Below w.heap.size w w' := by
  have HD := Lib.hid (DBox.start (c1 := c1) (c2 := c2) (L := L) (· < w.heap.size) hd.rs hd.rm (fun _ h => h))
  have HL1 := Lib.hid hd.ls
  have HL2 := Lib.hid hd.lm
  have HG := Lib.hid hg
  clear hd hg
  go_enter Try.func10, Try.ntmps10
  go_wp2_with fail
  refine (awake32 _).mono ?_
  rintro e w1 ⟨rfl, hb⟩
  have HD1 := Lib.hid (HD.out.below hb)
  have HB1 := Lib.hid (below_box (o := (.cells #[.slice A1 sg.length c1, .slice A2 mt.length c2, .int .i64 L] 24)) (by simpa using hb))
  clear hb
  have k0 := HD1.out.c0
  have k1 := HD1.out.c1
  have k2 := HD1.out.c2
  go_wp2_with fail
  refine (small_no A1 A2 c1 c2 sg mt L w1 HG.out).mono ?_
  rintro e w2 ⟨rfl, hb⟩
  have HD2 := Lib.hid (HD1.out.below hb)
  have HB2 := Lib.hid (HB1.out.trans (hb.mono HB1.out.size))
  clear hb k0 k1 k2 HD1 HB1
  have k0 := HD2.out.c0
  have k1 := HD2.out.c1
  have k2 := HD2.out.c2
  go_wp2_with fail
  go_ret
  exact ⟨rfl, HB2.out⟩

set_option maxHeartbeats 2000000 in
theorem smi_no (hg1 : ¬ 14 < sg.length) (hg2 : ¬ 80 < mt.length) (hno : ¬ IsD sg mt L) :
    Calls Try.prog 10 #[.agg #[.slice A1 sg.length c1, .slice A2 mt.length c2, .int .i64 L]] w fun e w' => e = .returned (.bool true) ∧ Below w.heap.size w w' := by
  have HD := Lib.hid (DBox.start (c1 := c1) (c2 := c2) (L := L) (· < w.heap.size) hd.rs hd.rm (fun _ h => h))
  have HL1 := Lib.hid hd.ls
  have HL2 := Lib.hid hd.lm
  have HS1 := Lib.hid hg1
  have HS2 := Lib.hid hg2
  have HR := Lib.hid (decide_eq_false hno)
  clear hd hg1 hg2 hno
  go_enter Try.func10, Try.ntmps10
  go_wp2_with fail
  refine (awake32 _).mono ?_
  rintro e w1 ⟨rfl, hb⟩
  have HD1 := Lib.hid (HD.out.below hb)
  have HB1 := Lib.hid (below_box (o := (.cells #[.slice A1 sg.length c1, .slice A2 mt.length c2, .int .i64 L] 24)) (by simpa using hb))
  clear hb
  have k0 := HD1.out.c0
  have k1 := HD1.out.c1
  have k2 := HD1.out.c2
  go_wp2_with fail
  refine (small_yes A1 A2 c1 c2 sg mt L w1 HS1.out HS2.out).mono ?_
  rintro e w2 ⟨rfl, hb⟩
  have HD2 := Lib.hid (HD1.out.below hb)
  have HB2 := Lib.hid (HB1.out.trans (hb.mono HB1.out.size))
  clear hb k0 k1 k2 HD1 HB1
  have k0 := HD2.out.c0
  have k1 := HD2.out.c1
  have k2 := HD2.out.c2
  go_wp2_with fail
  refine (dvalid_is (· < w2.heap.size) false HD2.out.rs HD2.out.rm (fun _ h => h) HL1.out HL2.out HR.out).mono ?_
  rintro e w3 ⟨rfl, hb⟩
  have HD3 := Lib.hid (HD2.out.below hb)
  have HB3 := Lib.hid (HB2.out.trans (hb.mono HB2.out.size))
  clear hb k0 k1 k2 HD2 HB2
  have k0 := HD3.out.c0
  have k1 := HD3.out.c1
  have k2 := HD3.out.c2
  go_wp2_with fail
  go_ret
  exact ⟨rfl, HB3.out⟩

set_option maxRecDepth 100000 in
set_option maxHeartbeats 8000000 in
theorem smi_ok (hg1 : ¬ 14 < sg.length) (hg2 : ¬ 80 < mt.length) (hi : IsD sg mt L) :
    Calls Try.prog 10 #[.agg #[.slice A1 sg.length c1, .slice A2 mt.length c2, .int .i64 L]] w fun e w' => e = .returned (.bool true) ∧ Below w.heap.size w w' := by
  have HD := Lib.hid (DBox.start (c1 := c1) (c2 := c2) (L := L) (· < w.heap.size) hd.rs hd.rm (fun _ h => h))
  have HL1 := Lib.hid hd.ls
  have HL2 := Lib.hid hd.lm
  have HS1 := Lib.hid hg1
  have HS2 := Lib.hid hg2
  have HI := Lib.hid hi
  have H256 : Hid (mt.length ≤ 256) := by have := hi.1; have := hi.2.1; exact (by omega : mt.length ≤ 256)
  clear hd hg1 hg2 hi
  go_enter Try.func10, Try.ntmps10
  go_wp2_with fail
  refine (awake32 _).mono ?_
  rintro e w1 ⟨rfl, hb⟩
  have HD1 := Lib.hid (HD.out.below hb)
  have HB1 := Lib.hid (below_box (o := (.cells #[.slice A1 sg.length c1, .slice A2 mt.length c2, .int .i64 L] 24)) (by simpa using hb))
  clear hb
  have k0 := HD1.out.c0
  have k1 := HD1.out.c1
  have k2 := HD1.out.c2
  go_wp2_with fail
  refine (small_yes A1 A2 c1 c2 sg mt L w1 HS1.out HS2.out).mono ?_
  rintro e w2 ⟨rfl, hb⟩
  have HD2 := Lib.hid (HD1.out.below hb)
  have HB2 := Lib.hid (HB1.out.trans (hb.mono HB1.out.size))
  clear hb k0 k1 k2 HD1 HB1
  have k0 := HD2.out.c0
  have k1 := HD2.out.c1
  have k2 := HD2.out.c2
  go_wp2_with fail
  refine (dvalid_is (· < w2.heap.size) true HD2.out.rs HD2.out.rm (fun _ h => h) HL1.out HL2.out (decide_eq_true HI.out)).mono ?_
  rintro e w3 ⟨rfl, hb⟩
  have HD3 := Lib.hid (HD2.out.below hb)
  have HB3 := Lib.hid (HB2.out.trans (hb.mono HB2.out.size))
  clear hb k0 k1 k2 HD2 HB2
  have k0 := HD3.out.c0
  have k1 := HD3.out.c1
  have k2 := HD3.out.c2
  go_wp2_with fail
  refine (mirror_ok A1 A2 c1 c2 sg mt L w3 (· < w3.heap.size) HD3.out.rs HD3.out.rm (fun _ h => h) HI.out).mono ?_
  rintro e w4' ⟨v1, v2, q1, r1, rfl, him, hF, hb⟩
  obtain ⟨Q1, p1, rfl, -, -, -⟩ := hF.os.shape
  obtain ⟨R1, o1, rfl, -, -, -⟩ := hF.om.shape
  have HM1 := Lib.hid (moved_M HI.out him)
  have HI1 := Lib.hid (mv_isD HI.out HM1.out)
  have HC1 := Lib.hid (mv_circs HI.out HM1.out (circ_M HI.out him))
  have HN1 := Lib.hid (mv_incl HI.out HM1.out (circ_M HI.out him))
  have hbx := (Below.refl w4'.heap.size w4').alloc (Nat.le_refl _) (.cells #[.slice Q1 q1.length p1, .slice R1 r1.length o1, .int .i64 L] 24)
  have HD4 := Lib.hid (HD3.out.below (hb.trans (hbx.mono hb.size)))
  have HB4 := Lib.hid ((HB3.out.trans (hb.mono HB3.out.size)).trans (hbx.mono (Nat.le_trans HB3.out.size hb.size)))
  have HX1_4 := Lib.hid (fresh_box L hF)
  have hd9 := HD3.out.below hb
  have k0 := hd9.c0
  have k1 := hd9.c1
  have k2 := hd9.c2
  have hlw := hd9.lt
  clear him hF hb hbx hd9 HD3 HB3 
  go_wp2_with fail
  clear k0 k1 k2 hlw
  obtain ⟨b1, hb1⟩ : ∃ b, w4'.heap.size = b := ⟨_, rfl⟩
  rw [hb1] at HX1_4 ⊢
  generalize (w4'.alloc (.cells #[.slice Q1 q1.length p1, .slice R1 r1.length o1, .int .i64 L] 24)) = w4 at *
  clear hb1
  refine (reflect_ok A1 A2 c1 c2 sg mt L w4 (· < w4.heap.size) HD4.out.rs HD4.out.rm (fun _ h => h) HI.out).mono ?_
  rintro e w5' ⟨v1, v2, q2, r2, rfl, him, hF, hb⟩
  obtain ⟨Q2, p2, rfl, -, -, -⟩ := hF.os.shape
  obtain ⟨R2, o2, rfl, -, -, -⟩ := hF.om.shape
  have HM2 := Lib.hid (moved_F HI.out him)
  have HI2 := Lib.hid (mv_isD HI.out HM2.out)
  have HC2 := Lib.hid (mv_circs HI.out HM2.out (circ_F HI.out him))
  have HN2 := Lib.hid (mv_incl HI.out HM2.out (circ_F HI.out him))
  have hbx := (Below.refl w5'.heap.size w5').alloc (Nat.le_refl _) (.cells #[.slice Q2 q2.length p2, .slice R2 r2.length o2, .int .i64 L] 24)
  have HD5 := Lib.hid (HD4.out.below (hb.trans (hbx.mono hb.size)))
  have HB5 := Lib.hid ((HB4.out.trans (hb.mono HB4.out.size)).trans (hbx.mono (Nat.le_trans HB4.out.size hb.size)))
  have HX1_5 := Lib.hid (HX1_4.out.below (hb.trans (hbx.mono hb.size)))
  have HX2_5 := Lib.hid (fresh_box L hF)
  have hd9 := HD4.out.below hb
  have k0 := hd9.c0
  have k1 := hd9.c1
  have k2 := hd9.c2
  have hlw := hd9.lt
  clear him hF hb hbx hd9 HD4 HB4 HX1_4
  go_wp2_with fail
  clear k0 k1 k2 hlw
  obtain ⟨b2, hb2⟩ : ∃ b, w5'.heap.size = b := ⟨_, rfl⟩
  rw [hb2] at HX2_5 ⊢
  generalize (w5'.alloc (.cells #[.slice Q2 q2.length p2, .slice R2 r2.length o2, .int .i64 L] 24)) = w5 at *
  clear hb2
  refine (reverse_ok A1 A2 c1 c2 sg mt L w5 (· < w5.heap.size) HD5.out.rs HD5.out.rm (fun _ h => h) HI.out).mono ?_
  rintro e w6' ⟨v1, v2, q3, r3, rfl, him, hF, hb⟩
  obtain ⟨Q3, p3, rfl, -, -, -⟩ := hF.os.shape
  obtain ⟨R3, o3, rfl, -, -, -⟩ := hF.om.shape
  have HM3 := Lib.hid (moved_R HI.out him)
  have HI3 := Lib.hid (mv_isD HI.out HM3.out)
  have HC3 := Lib.hid (mv_circs HI.out HM3.out (circ_R HI.out him))
  have HN3 := Lib.hid (mv_incl HI.out HM3.out (circ_R HI.out him))
  have hbx := (Below.refl w6'.heap.size w6').alloc (Nat.le_refl _) (.cells #[.slice Q3 q3.length p3, .slice R3 r3.length o3, .int .i64 L] 24)
  have HD6 := Lib.hid (HD5.out.below (hb.trans (hbx.mono hb.size)))
  have HB6 := Lib.hid ((HB5.out.trans (hb.mono HB5.out.size)).trans (hbx.mono (Nat.le_trans HB5.out.size hb.size)))
  have HX1_6 := Lib.hid (HX1_5.out.below (hb.trans (hbx.mono hb.size)))
  have HX2_6 := Lib.hid (HX2_5.out.below (hb.trans (hbx.mono hb.size)))
  have HX3_6 := Lib.hid (fresh_box L hF)
  have hd9 := HD5.out.below hb
  have k0 := hd9.c0
  have k1 := hd9.c1
  have k2 := hd9.c2
  have hlw := hd9.lt
  clear him hF hb hbx hd9 HD5 HB5 HX1_5 HX2_5
  go_wp2_with fail
  clear k0 k1 k2 hlw
  obtain ⟨b3, hb3⟩ : ∃ b, w6'.heap.size = b := ⟨_, rfl⟩
  rw [hb3] at HX3_6 ⊢
  generalize (w6'.alloc (.cells #[.slice Q3 q3.length p3, .slice R3 r3.length o3, .int .i64 L] 24)) = w6 at *
  clear hb3
  refine (scirc_ok A1 A2 c1 c2 sg mt L w6 (· < w6.heap.size) HD6.out.rs HD6.out.rm (fun _ h => h) HI.out).mono ?_
  rintro e w7 ⟨v, rfl, hr, hb⟩
  have HD7 := Lib.hid (HD6.out.below hb)
  have HB7 := Lib.hid (HB6.out.trans (hb.mono HB6.out.size))
  have HX1_7 := Lib.hid (HX1_6.out.below hb)
  have HX2_7 := Lib.hid (HX2_6.out.below hb)
  have HX3_7 := Lib.hid (HX3_6.out.below hb)
  obtain ⟨Ac, cc, rfl, -, -, -⟩ := hr.shape
  rw [rows_cycs_length]
  clear hr
  clear hb HD6 HB6 HX1_6 HX2_6 HX3_6
  have k0 := HD7.out.c0
  have k1 := HD7.out.c1
  have k2 := HD7.out.c2
  go_wp2_with fail
  clear k0 k1 k2
  refine (seuler_ok A1 A2 c1 c2 sg mt L w7 (· < w7.heap.size) HD7.out.rs HD7.out.rm (fun _ h => h) HI.out).mono ?_
  rintro e w8 ⟨rfl, hb⟩
  have HD8 := Lib.hid (HD7.out.below hb)
  have HB8 := Lib.hid (HB7.out.trans (hb.mono HB7.out.size))
  have HX1_8 := Lib.hid (HX1_7.out.below hb)
  have HX2_8 := Lib.hid (HX2_7.out.below hb)
  have HX3_8 := Lib.hid (HX3_7.out.below hb)
  clear hb HD7 HB7 HX1_7 HX2_7 HX3_7
  have k0 := HD8.out.c0
  have k1 := HD8.out.c1
  have k2 := HD8.out.c2
  go_wp2_with fail
  clear k0 k1 k2
  refine (sinc_ok A1 A2 c1 c2 sg mt L w8 (· < w8.heap.size) HD8.out.rs HD8.out.rm (fun _ h => h) HI.out H256.out).mono ?_
  rintro e w9 ⟨v, rfl, hr, hb⟩
  have HD9 := Lib.hid (HD8.out.below hb)
  have HB9 := Lib.hid (HB8.out.trans (hb.mono HB8.out.size))
  have HX1_9 := Lib.hid (HX1_8.out.below hb)
  have HX2_9 := Lib.hid (HX2_8.out.below hb)
  have HX3_9 := Lib.hid (HX3_8.out.below hb)
  obtain ⟨Ai, ci, rfl, -, -⟩ := hr.shape
  clear hr
  clear hb HD8 HB8 HX1_8 HX2_8 HX3_8
  have k0 := HD9.out.c0
  have k1 := HD9.out.c1
  have k2 := HD9.out.c2
  have x10 := HX1_9.out.c0
  have x11 := HX1_9.out.c1
  have x12 := HX1_9.out.c2
  have x20 := HX2_9.out.c0
  have x21 := HX2_9.out.c1
  have x22 := HX2_9.out.c2
  have x30 := HX3_9.out.c0
  have x31 := HX3_9.out.c1
  have x32 := HX3_9.out.c2
  go_wp2_with fail
  have hbw := (Below.refl w9.heap.size w9).alloc (Nat.le_refl _) (.cells #[.slice Q1 q1.length p1, .slice R1 r1.length o1, .int .i64 L, .slice Q2 q2.length p2, .slice R2 r2.length o2, .int .i64 L, .slice Q3 q3.length p3, .slice R3 r3.length o3, .int .i64 L] 24)
  have hnew := heap_alloc_new w9 (.cells #[.slice Q1 q1.length p1, .slice R1 r1.length o1, .int .i64 L, .slice Q2 q2.length p2, .slice R2 r2.length o2, .int .i64 L, .slice Q3 q3.length p3, .slice R3 r3.length o3, .int .i64 L] 24)
  have HBW := Lib.hid (HB9.out.trans (hbw.mono HB9.out.size))
  have HY1 := Lib.hid (HX1_9.out.below hbw)
  have HY2 := Lib.hid (HX2_9.out.below hbw)
  have HY3 := Lib.hid (HX3_9.out.below hbw)
  have hlt9 : w9.heap.size < (w9.alloc (.cells #[.slice Q1 q1.length p1, .slice R1 r1.length o1, .int .i64 L, .slice Q2 q2.length p2, .slice R2 r2.length o2, .int .i64 L, .slice Q3 q3.length p3, .slice R3 r3.length o3, .int .i64 L] 24)).heap.size := by simp
  clear k0 k1 k2 x10 x11 x12 x20 x21 x22 x30 x31 x32 hbw HD9 HB9 HX1_9 HX2_9 HX3_9
  obtain ⟨gs, hgs⟩ : ∃ g, w9.heap.size = g := ⟨_, rfl⟩
  rw [hgs] at hnew hlt9 ⊢
  generalize (w9.alloc (.cells #[.slice Q1 q1.length p1, .slice R1 r1.length o1, .int .i64 L, .slice Q2 q2.length p2, .slice R2 r2.length o2, .int .i64 L, .slice Q3 q3.length p3, .slice R3 r3.length o3, .int .i64 L] 24)) = W at *
  have HS0 : Hid (MrS w W gs (s3 Q1 Q2 Q3) (s3 R1 R2 R3) (s3 p1 p2 p3) (s3 o1 o2 o3) (s3 q1 q2 q3) (s3 r1 r2 r3) L) := by
    refine Lib.hid ⟨fun k hk => ?_, fun k hk => ?_, fun k hk => ?_, fun k => ?_, fun k => ?_, hlt9, HBW.out⟩
    · rcases (show k = 0 ∨ k = 1 ∨ k = 2 by omega) with rfl | rfl | rfl <;> (rw [cell_of_row _ _ _ _ _ _ hnew]; rfl)
    · rcases (show k = 0 ∨ k = 1 ∨ k = 2 by omega) with rfl | rfl | rfl <;> (rw [cell_of_row _ _ _ _ _ _ hnew]; rfl)
    · rcases (show k = 0 ∨ k = 1 ∨ k = 2 by omega) with rfl | rfl | rfl <;> (rw [cell_of_row _ _ _ _ _ _ hnew]; rfl)
    · unfold s3; split
      · exact HY1.out.rs
      · split
        · exact HY2.out.rs
        · exact HY3.out.rs
    · unfold s3; split
      · exact HY1.out.rm
      · split
        · exact HY2.out.rm
        · exact HY3.out.rm
  have HK : Hid (∀ k, IsD (s3 q1 q2 q3 k) (s3 r1 r2 r3 k) L ∧ (circL (s3 q1 q2 q3 k) (s3 r1 r2 r3 k)).length = (circL sg mt).length ∧ (incL (s3 q1 q2 q3 k) (s3 r1 r2 r3 k) (s3 r1 r2 r3 k).length).length = (incL sg mt mt.length).length ∧ (s3 q1 q2 q3 k).length = sg.length ∧ (s3 r1 r2 r3 k).length = mt.length) := by
    refine Lib.hid fun k => ?_
    unfold s3; split
    · exact ⟨HI1.out, HC1.out, HN1.out, HM1.out.ql, HM1.out.rl⟩
    · split
      · exact ⟨HI2.out, HC2.out, HN2.out, HM2.out.ql, HM2.out.rl⟩
      · exact ⟨HI3.out, HC3.out, HN3.out, HM3.out.ql, HM3.out.rl⟩
  clear hnew hlt9 HBW HY1 HY2 HY3 hgs HI1 HC1 HN1 HM1 HI2 HC2 HN2 HM2 HI3 HC3 HN3 HM3
  generalize s3 Q1 Q2 Q3 = QB at *
  generalize s3 R1 R2 R3 = RB at *
  generalize s3 p1 p2 p3 = pc at *
  generalize s3 o1 o2 o3 = oc at *
  generalize s3 q1 q2 q3 = qs at *
  generalize s3 r1 r2 r3 = rs at *
  obtain ⟨cl, hcl⟩ : ∃ n, (circL sg mt).length = n := ⟨_, rfl⟩
  obtain ⟨il, hil⟩ : ∃ n, (incL sg mt mt.length).length = n := ⟨_, rfl⟩
  rw [hcl, hil] at HK
  rw [hcl, hil]
  obtain ⟨eu, heu⟩ : ∃ x : Int, (cl : Int) + L - (sg.length : Int) = x := ⟨_, rfl⟩
  rw [heu]
  have HEU := Lib.hid heu
  clear hcl hil heu
  go_loopw [73] (fun i wr => ∃ k : Nat, k ≤ 3 ∧ i = .int .i64 k ∧ Hid (MrS w wr gs QB RB pc oc qs rs L)) (fun i _ => 3 - (intOf i).toNat)
  case atStart => exact ⟨0, by omega, rfl, HS0⟩
  case round =>
    clear HS0
    obtain ⟨k, hk, rfl, HS⟩ := hrel
    by_cases hlt : k < 3
    · have a0 := HS.out.c0 k hlt
      have a1 := HS.out.c1 k hlt
      have a2 := HS.out.c2 k hlt
      have HRQ := Lib.hid (HS.out.rq k)
      have HRR := Lib.hid (HS.out.rr k)
      have HKK := Lib.hid (HK.out k)
      obtain ⟨q, hq⟩ : ∃ q, qs k = q := ⟨_, rfl⟩
      obtain ⟨r, hr⟩ : ∃ r, rs k = r := ⟨_, rfl⟩
      obtain ⟨Q1, hQ⟩ : ∃ r, QB k = r := ⟨_, rfl⟩
      obtain ⟨R1, hR⟩ : ∃ r, RB k = r := ⟨_, rfl⟩
      obtain ⟨p1, hp⟩ : ∃ r, pc k = r := ⟨_, rfl⟩
      obtain ⟨o1, ho⟩ : ∃ r, oc k = r := ⟨_, rfl⟩
      rw [hq, hQ, hp] at a0
      rw [hr, hR, ho] at a1
      rw [hq, hQ] at HRQ
      rw [hr, hR] at HRR
      rw [hq, hr] at HKK
      have HX0 := Lib.hid (DBox.start (c1 := p1) (c2 := o1) (L := L) (· < wr.heap.size) HRQ.out HRR.out (fun _ h => h))
      have hbx := (Below.refl wr.heap.size wr).alloc (Nat.le_refl _) (.cells #[.slice Q1 q.length p1, .slice R1 r.length o1, .int .i64 L] 24)
      have HS1 := Lib.hid (HS.out.call hbx)
      have H256 : Hid (r.length ≤ 256) := by rw [HKK.out.2.2.2.2]; exact H256.out
      clear hq hr hQ hR hp ho HRQ HRR hbx HS
      have y0 := HX0.out.c0
      have y1 := HX0.out.c1
      have y2 := HX0.out.c2
      go_wp2_with fail
      clear a0 a1 a2
      obtain ⟨bx, hbx⟩ : ∃ b, wr.heap.size = b := ⟨_, rfl⟩
      rw [hbx] at HX0 y0 y1 y2 ⊢
      generalize (wr.alloc (.cells #[.slice Q1 q.length p1, .slice R1 r.length o1, .int .i64 L] 24)) = u0 at *
      clear hbx
      refine (scirc_ok Q1 R1 p1 o1 q r L u0 (· < u0.heap.size) HX0.out.rs HX0.out.rm (fun _ h => h) HKK.out.1).mono ?_
      rintro e u1 ⟨v, rfl, hr, hb⟩
      have HX1 := Lib.hid (HX0.out.below hb)
      have HS2 := Lib.hid (HS1.out.call hb)
      obtain ⟨Ac', cc', rfl, -, -, -⟩ := hr.shape
      rw [rows_cycs_length]
      rw [HKK.out.2.1]
      clear hr hb HX0 HS1 y0 y1 y2
      have y0 := HX1.out.c0
      have y1 := HX1.out.c1
      have y2 := HX1.out.c2
      go_wp2_with fail
      refine (seuler_ok Q1 R1 p1 o1 q r L u1 (· < u1.heap.size) HX1.out.rs HX1.out.rm (fun _ h => h) HKK.out.1).mono ?_
      rintro e u2 ⟨rfl, hb⟩
      rw [HKK.out.2.1, HKK.out.2.2.2.1, HEU.out]
      have HX2 := Lib.hid (HX1.out.below hb)
      have HS3 := Lib.hid (HS2.out.call hb)
      clear hb HX1 HS2 y0 y1 y2
      have y0 := HX2.out.c0
      have y1 := HX2.out.c1
      have y2 := HX2.out.c2
      have t1 : ((cl : Int) != (cl : Int)) = false := by simp
      have t2 : (eu != eu) = false := by simp
      have t3 : ((il : Int) != (il : Int)) = false := by simp
      go_wp2_with fail
      refine (sinc_ok Q1 R1 p1 o1 q r L u2 (· < u2.heap.size) HX2.out.rs HX2.out.rm (fun _ h => h) HKK.out.1 H256.out).mono ?_
      rintro e u3 ⟨v, rfl, hr, hb⟩
      obtain ⟨Ai', ci', rfl, -, -⟩ := hr.shape
      rw [HKK.out.2.2.1]
      have HS4 := Lib.hid (HS3.out.call hb)
      clear hr hb HX2 HS3 y0 y1 y2
      go_wp2_with fail
      go_roundw
      case rel => exact ⟨k + 1, by omega, by go_num, HS4⟩
      case measure => simp [intOf]; omega
    · obtain rfl : k = 3 := by omega
      go_wp2_with fail
      go_ret
      exact ⟨rfl, HS.out.bel⟩
end
theorem seifertMirrors_walk (A1 A2 : Option Addr) (c1 c2 : Nat) (sg mt : List Int) (L : Int) (w : World) (hd : DArg w A1 A2 sg mt L) :
    Calls Try.prog 10 #[.agg #[.slice A1 sg.length c1, .slice A2 mt.length c2, .int .i64 L]] w fun e w' => e = .returned (.bool true) ∧ Below w.heap.size w w' := by
  by_cases hg1 : 14 < sg.length
  · exact smi_great A1 A2 c1 c2 sg mt L w hd (.inl hg1)
  · by_cases hg2 : 80 < mt.length
    · exact smi_great A1 A2 c1 c2 sg mt L w hd (.inr hg2)
    · by_cases hi : IsD sg mt L
      · exact smi_ok A1 A2 c1 c2 sg mt L w hd hg1 hg2 hi
      · exact smi_no A1 A2 c1 c2 sg mt L w hd hg1 hg2 hi
end Go.Proofs.Ytaghemilihaiaaa

