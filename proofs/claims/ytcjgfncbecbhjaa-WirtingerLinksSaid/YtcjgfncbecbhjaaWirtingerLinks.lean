/-
  The law WirtingerLinks, walked: the call returns true and writes nothing that was there.
-/
import Derived.Test.YtcjgfncbecbhjaaAw22
import Derived.Test.YtcjgfncbecbhjaaLinkW
import Derived.Test.YtcjgfncbecbhjaaSums
import Derived.Test.YtcjgfncbecbhjaaOSt
import Derived.Test.YtcjgfncbecbhjaaDArg
namespace Go.Proofs.Ytcjgfncbecbhjaa
open Go.RowKit

theorem cmp_bd {sg mt : List Int} {L : Int} (hd : IsD sg mt L) (l : Nat) : CmB (cmpL sg mt l) ((strandsL sg mt).length + l) := fun a ha => by
  rw [cmp_len] at ha
  exact cmp_all hd ha
/-- the longitude of a component: a loop's is empty -/
def lwL (sg mt : List Int) (i : Nat) : List Int := if i < (strandsL sg mt).length then lonL sg mt i else []
theorem lw_bal {sg mt : List Int} {L : Int} (hd : IsD sg mt L) (l i j : Nat) : bal (cmpL sg mt l) (lwL sg mt i) j = if i = j then 0 else lkU sg mt i j := by
  unfold lwL
  by_cases h : i < (strandsL sg mt).length
  · rw [if_pos h]; exact lon_bal hd h l j
  · rw [if_neg h, bal_nil, lkU_loop hd (by omega)]; simp
theorem lw_wv {sg mt : List Int} {L : Int} (hd : IsD sg mt L) (l i : Nat) : WV (((arC sg mt + l : Nat) : Int)) (lwL sg mt i) := by
  unfold lwL
  by_cases h : i < (strandsL sg mt).length
  · rw [if_pos h]; exact lon_wv hd h
  · rw [if_neg h]; intro k hk; simp at hk
theorem lw_len {sg mt : List Int} {L : Int} (hd : IsD sg mt L) (i : Nat) : (lwL sg mt i).length ≤ 1000 := by
  unfold lwL
  by_cases h : i < (strandsL sg mt).length
  · rw [if_pos h]; exact lon_len hd h
  · rw [if_neg h]; simp
theorem long_lw (A1 A2 : Option Addr) (c1 c2 : Nat) (sg mt : List Int) (L : Int) (w : World) (S : Nat → Prop) (hx : RI w S A1 sg) (hy : RI w S A2 mt) (hS : ∀ b, S b → b < w.heap.size) (hd : IsD sg mt L) (i : Nat) (hi : (i : Int) < ((strandsL sg mt).length : Int) + L) :
    Calls Try.prog 30 #[.agg #[.slice A1 sg.length c1, .slice A2 mt.length c2, .int .i64 L], .int .i64 (i : Int)] w fun e w' => ∃ v, e = .returned (.tuple #[v, .int .i64 0]) ∧ OI w' w.heap.size v (lwL sg mt i) ∧ Below w.heap.size w w' := by
  unfold lwL
  by_cases h : i < (strandsL sg mt).length
  · rw [if_pos h]; exact long_ok A1 A2 c1 c2 sg mt L w S hx hy hS i hd h
  · rw [if_neg h]
    refine (long_out A1 A2 c1 c2 sg mt L w S hx hy hS (i : Int) hd 0 (.inr (.inr ⟨by omega, hi, rfl⟩))).mono ?_
    rintro e w' ⟨rfl, hb⟩
    exact ⟨_, rfl, OR.nil _ _, hb⟩
section
variable (A1 A2 : Option Addr) (c1 c2 : Nat) (sg mt : List Int) (L : Int) (w : World) (hd : DArg w A1 A2 sg mt L)
include hd

set_option maxHeartbeats 8000000 in
theorem wll_great (kk : Int) (hf : ¬ fewB sg mt L) :
    Calls Try.prog 11 #[.agg #[.slice A1 sg.length c1, .slice A2 mt.length c2, .int .i64 L], .int .u8 kk] w fun e w' => e = .returned (.bool true) ∧ Below w.heap.size w w' := by
  have HD := Lib.hid (DBox.start (c1 := c1) (c2 := c2) (L := L) (· < w.heap.size) hd.rs hd.rm (fun _ h => h))
  have HL1 := Lib.hid hd.ls
  have HL2 := Lib.hid hd.lm
  have HF := Lib.hid hf
  clear hd hf
  go_enter Try.func11, Try.ntmps11
  go_wp2_with fail
  refine (awake22 _).mono ?_
  rintro e w1 ⟨rfl, hb⟩
  have HD1 := Lib.hid (HD.out.below hb)
  have HB1 := Lib.hid (below_box (o := (.cells #[.slice A1 sg.length c1, .slice A2 mt.length c2, .int .i64 L] 24)) (by simpa using hb))
  clear hb
  have k0 := HD1.out.c0
  have k1 := HD1.out.c1
  have k2 := HD1.out.c2
  go_wp2_with fail
  refine (few_no A1 A2 c1 c2 sg mt L w1 HF.out).mono ?_
  rintro e w2 ⟨rfl, hb⟩
  have HD2 := Lib.hid (HD1.out.below hb)
  have HB2 := Lib.hid (HB1.out.trans (hb.mono HB1.out.size))
  clear hb k0 k1 k2 HD1 HB1
  have k0 := HD2.out.c0
  have k1 := HD2.out.c1
  have k2 := HD2.out.c2
  go_wp2_with fail
  refine (awake22 _).mono ?_
  rintro e w3 ⟨rfl, hb⟩
  have HD3 := Lib.hid (HD2.out.below hb)
  have HB3 := Lib.hid (HB2.out.trans (hb.mono HB2.out.size))
  clear hb k0 k1 k2 HD2 HB2
  have k0 := HD3.out.c0
  have k1 := HD3.out.c1
  have k2 := HD3.out.c2
  go_wp2_with fail
  go_ret
  exact ⟨rfl, HB3.out⟩

set_option maxHeartbeats 8000000 in
theorem wll_no (kk : Int) (hf : fewB sg mt L) (hno : ¬ IsD sg mt L) :
    Calls Try.prog 11 #[.agg #[.slice A1 sg.length c1, .slice A2 mt.length c2, .int .i64 L], .int .u8 kk] w fun e w' => e = .returned (.bool true) ∧ Below w.heap.size w w' := by
  have HD := Lib.hid (DBox.start (c1 := c1) (c2 := c2) (L := L) (· < w.heap.size) hd.rs hd.rm (fun _ h => h))
  have HL1 := Lib.hid hd.ls
  have HL2 := Lib.hid hd.lm
  have HF := Lib.hid hf
  have HR := Lib.hid (decide_eq_false hno)
  clear hd hf hno
  go_enter Try.func11, Try.ntmps11
  go_wp2_with fail
  refine (awake22 _).mono ?_
  rintro e w1 ⟨rfl, hb⟩
  have HD1 := Lib.hid (HD.out.below hb)
  have HB1 := Lib.hid (below_box (o := (.cells #[.slice A1 sg.length c1, .slice A2 mt.length c2, .int .i64 L] 24)) (by simpa using hb))
  clear hb
  have k0 := HD1.out.c0
  have k1 := HD1.out.c1
  have k2 := HD1.out.c2
  go_wp2_with fail
  refine (few_yes A1 A2 c1 c2 sg mt L w1 HF.out).mono ?_
  rintro e w2 ⟨rfl, hb⟩
  have HD2 := Lib.hid (HD1.out.below hb)
  have HB2 := Lib.hid (HB1.out.trans (hb.mono HB1.out.size))
  clear hb k0 k1 k2 HD1 HB1
  have k0 := HD2.out.c0
  have k1 := HD2.out.c1
  have k2 := HD2.out.c2
  go_wp2_with fail
  refine (dvalid_is (· < w2.heap.size) false HD2.out.rs HD2.out.rm (fun _ h => h) HL1.out HL2.out HR.out).mono ?_
  rintro e w3 ⟨rfl, hb⟩
  have HD3 := Lib.hid (HD2.out.below hb)
  have HB3 := Lib.hid (HB2.out.trans (hb.mono HB2.out.size))
  clear hb k0 k1 k2 HD2 HB2
  have k0 := HD3.out.c0
  have k1 := HD3.out.c1
  have k2 := HD3.out.c2
  go_wp2_with fail
  refine (awake22 _).mono ?_
  rintro e w4 ⟨rfl, hb⟩
  have HD4 := Lib.hid (HD3.out.below hb)
  have HB4 := Lib.hid (HB3.out.trans (hb.mono HB3.out.size))
  clear hb k0 k1 k2 HD3 HB3
  have k0 := HD4.out.c0
  have k1 := HD4.out.c1
  have k2 := HD4.out.c2
  go_wp2_with fail
  go_ret
  exact ⟨rfl, HB4.out⟩

set_option maxHeartbeats 8000000 in
theorem wll_zero (kk : Int) (hf : fewB sg mt L) (hi : IsD sg mt L) (hz : ((strandsL sg mt).length : Int) + L = 0) :
    Calls Try.prog 11 #[.agg #[.slice A1 sg.length c1, .slice A2 mt.length c2, .int .i64 L], .int .u8 kk] w fun e w' => e = .returned (.bool true) ∧ Below w.heap.size w w' := by
  have HD := Lib.hid (DBox.start (c1 := c1) (c2 := c2) (L := L) (· < w.heap.size) hd.rs hd.rm (fun _ h => h))
  have HL1 := Lib.hid hd.ls
  have HL2 := Lib.hid hd.lm
  have HF := Lib.hid hf
  have HI := Lib.hid hi
  have HZ := Lib.hid hz
  clear hd hf hi hz
  go_enter Try.func11, Try.ntmps11
  go_wp2_with fail
  refine (awake22 _).mono ?_
  rintro e w1 ⟨rfl, hb⟩
  have HD1 := Lib.hid (HD.out.below hb)
  have HB1 := Lib.hid (below_box (o := (.cells #[.slice A1 sg.length c1, .slice A2 mt.length c2, .int .i64 L] 24)) (by simpa using hb))
  clear hb
  have k0 := HD1.out.c0
  have k1 := HD1.out.c1
  have k2 := HD1.out.c2
  go_wp2_with fail
  refine (few_yes A1 A2 c1 c2 sg mt L w1 HF.out).mono ?_
  rintro e w2 ⟨rfl, hb⟩
  have HD2 := Lib.hid (HD1.out.below hb)
  have HB2 := Lib.hid (HB1.out.trans (hb.mono HB1.out.size))
  clear hb k0 k1 k2 HD1 HB1
  have k0 := HD2.out.c0
  have k1 := HD2.out.c1
  have k2 := HD2.out.c2
  go_wp2_with fail
  refine (dvalid_is (· < w2.heap.size) true HD2.out.rs HD2.out.rm (fun _ h => h) HL1.out HL2.out (decide_eq_true HI.out)).mono ?_
  rintro e w3 ⟨rfl, hb⟩
  have HD3 := Lib.hid (HD2.out.below hb)
  have HB3 := Lib.hid (HB2.out.trans (hb.mono HB2.out.size))
  clear hb k0 k1 k2 HD2 HB2
  have k0 := HD3.out.c0
  have k1 := HD3.out.c1
  have k2 := HD3.out.c2
  go_wp2_with fail
  refine (components_ok A1 A2 c1 c2 sg mt L w3 (· < w3.heap.size) HD3.out.rs HD3.out.rm (fun _ h => h) HI.out).mono ?_
  rintro e w4 ⟨rfl, hb⟩
  have HD4 := Lib.hid (HD3.out.below hb)
  have HB4 := Lib.hid (HB3.out.trans (hb.mono HB3.out.size))
  rw [HZ.out]
  clear hb k0 k1 k2 HD3 HB3
  have k0 := HD4.out.c0
  have k1 := HD4.out.c1
  have k2 := HD4.out.c2
  go_wp2_with fail
  refine (awake22 _).mono ?_
  rintro e w5 ⟨rfl, hb⟩
  have HD5 := Lib.hid (HD4.out.below hb)
  have HB5 := Lib.hid (HB4.out.trans (hb.mono HB4.out.size))
  clear hb k0 k1 k2 HD4 HB4
  have k0 := HD5.out.c0
  have k1 := HD5.out.c1
  have k2 := HD5.out.c2
  go_wp2_with fail
  go_ret
  exact ⟨rfl, HB5.out⟩

set_option maxRecDepth 100000 in
set_option maxHeartbeats 8000000 in
theorem wll_ok (kk : Int) (hf : fewB sg mt L) (hi : IsD sg mt L) (hz : ((strandsL sg mt).length : Int) + L ≠ 0) (hk : 0 ≤ kk ∧ kk ≤ 255) :
    Calls Try.prog 11 #[.agg #[.slice A1 sg.length c1, .slice A2 mt.length c2, .int .i64 L], .int .u8 kk] w fun e w' => e = .returned (.bool true) ∧ Below w.heap.size w w' := by
  have HD := Lib.hid (DBox.start (c1 := c1) (c2 := c2) (L := L) (· < w.heap.size) hd.rs hd.rm (fun _ h => h))
  have HL1 := Lib.hid hd.ls
  have HL2 := Lib.hid hd.lm
  have HF := Lib.hid hf
  have HI := Lib.hid hi
  have hcn : arC sg mt ≤ 256 := by
    have h1 := cnt_le (headB (arR sg mt)) mt.length
    have h2 := hi.1
    have h3 := hi.2.1
    unfold arC; omega
  obtain ⟨m, hm⟩ : ∃ m, arC sg mt = m := ⟨_, rfl⟩
  rw [hm] at hcn
  have HM := Lib.hid hm
  obtain ⟨l, rfl⟩ : ∃ l : Nat, L = (l : Int) := ⟨L.toNat, by have := hi.2.2.1; omega⟩
  have hL2 : l ≤ 64 := by have := hi.2.2.2.1; omega
  have hcl : (cmpL sg mt l).length = m + l := by rw [cmp_len, hm]
  have HCL := Lib.hid hcl
  have hml : m + l ≤ maxLen := by unfold maxLen; omega
  have HML := Lib.hid hml
  have hsl : sg.length ≤ maxLen := hd.ls
  have HSL := Lib.hid hsl
  have hnl : (strandsL sg mt).length ≤ 256 := by
    have h1 := strandsL_most sg mt
    have h2 := hi.1
    have h3 := hi.2.1
    omega
  obtain ⟨p, hp⟩ : ∃ p, (strandsL sg mt).length + l = p := ⟨_, rfl⟩
  have hnp : ((strandsL sg mt).length : Int) + (l : Int) = (p : Int) := by omega
  have HNP := Lib.hid hnp
  have HP := Lib.hid hp
  have hp0 : 0 < p := by omega
  have hp1 : p ≤ 320 := by omega
  have hmp : 0 < m + l := by have := strands_le hi; omega
  obtain ⟨i, hki⟩ : ∃ i : Nat, kk.tmod (p : Int) = (i : Int) := by
    refine ⟨(kk.tmod (p : Int)).toNat, ?_⟩
    have := Int.tmod_nonneg (p : Int) hk.1
    omega
  have hip : i < p := by
    have := Int.tmod_lt_of_pos kk (show (0 : Int) < (p : Int) by omega)
    omega
  have hki2 : kk % (p : Int) = (i : Int) := by rw [← Int.tmod_eq_emod_of_nonneg hk.1]; exact hki
  have hkw : IntKind.i64.wrap kk = kk := IntWalk.i64_in _ (by omega)
  have hpz : ¬ (p : Int) = 0 := by omega
  have hpz' : ((p : Int) == 0) = false := by rw [beq_eq_false_iff_ne]; exact hpz
  have HIP : Hid ((i : Int) < ((strandsL sg mt).length : Int) + (l : Int)) := by rw [hnp]; exact (by omega : (i : Int) < (p : Int))
  have HCB := Lib.hid (cmp_bd hi l)
  rw [hp] at HCB
  have HWV := Lib.hid (lw_wv hi l i)
  rw [hm] at HWV
  have HGI : Hid (∀ j, j < p → gi (smL (cmpL sg mt l) (exL (m + l) (lwL sg mt i)) p (m + l)) j = if i = j then 0 else lkU sg mt i j) := fun j hj => by
    rw [sums_bal hj (wv_ga HWV.out), lw_bal hi]
  have HLW := Lib.hid (lw_len hi i)
  clear hd hf hi hm hcl hml hsl hp hnp hz hnl
  go_enter Try.func11, Try.ntmps11
  go_wp2_with fail
  refine (awake22 _).mono ?_
  rintro e w1 ⟨rfl, hb⟩
  have HD1 := Lib.hid (HD.out.below hb)
  have HB1 := Lib.hid (below_box (o := (.cells #[.slice A1 sg.length c1, .slice A2 mt.length c2, .int .i64 (l : Int)] 24)) (by simpa using hb))
  clear hb
  have k0 := HD1.out.c0
  have k1 := HD1.out.c1
  have k2 := HD1.out.c2
  go_wp2_with fail
  refine (few_yes A1 A2 c1 c2 sg mt (l : Int) w1 HF.out).mono ?_
  rintro e w2 ⟨rfl, hb⟩
  have HD2 := Lib.hid (HD1.out.below hb)
  have HB2 := Lib.hid (HB1.out.trans (hb.mono HB1.out.size))
  clear hb k0 k1 k2 HD1 HB1
  have k0 := HD2.out.c0
  have k1 := HD2.out.c1
  have k2 := HD2.out.c2
  go_wp2_with fail
  refine (dvalid_is (· < w2.heap.size) true HD2.out.rs HD2.out.rm (fun _ h => h) HL1.out HL2.out (decide_eq_true HI.out)).mono ?_
  rintro e w3 ⟨rfl, hb⟩
  have HD3 := Lib.hid (HD2.out.below hb)
  have HB3 := Lib.hid (HB2.out.trans (hb.mono HB2.out.size))
  clear hb k0 k1 k2 HD2 HB2
  have k0 := HD3.out.c0
  have k1 := HD3.out.c1
  have k2 := HD3.out.c2
  go_wp2_with fail
  refine (components_ok A1 A2 c1 c2 sg mt (l : Int) w3 (· < w3.heap.size) HD3.out.rs HD3.out.rm (fun _ h => h) HI.out).mono ?_
  rintro e w4 ⟨rfl, hb⟩
  have HD4 := Lib.hid (HD3.out.below hb)
  have HB4 := Lib.hid (HB3.out.trans (hb.mono HB3.out.size))
  rw [HNP.out]
  clear hb k0 k1 k2 HD3 HB3
  have k0 := HD4.out.c0
  have k1 := HD4.out.c1
  have k2 := HD4.out.c2
  go_wp2_with fail
  refine (components_ok A1 A2 c1 c2 sg mt (l : Int) w4 (· < w4.heap.size) HD4.out.rs HD4.out.rm (fun _ h => h) HI.out).mono ?_
  rintro e w5 ⟨rfl, hb⟩
  have HD5 := Lib.hid (HD4.out.below hb)
  have HB5 := Lib.hid (HB4.out.trans (hb.mono HB4.out.size))
  rw [HNP.out]
  clear hb k0 k1 k2 HD4 HB4
  have k0 := HD5.out.c0
  have k1 := HD5.out.c1
  have k2 := HD5.out.c2
  go_wp2_with fail
  refine (of_ok A1 A2 c1 c2 sg mt (l : Int) w5 (· < w5.heap.size) HD5.out.rs HD5.out.rm (fun _ h => h) HI.out).mono ?_
  rintro e w6 ⟨v2, v3, rfl, ho, hr, hb⟩
  rw [show ((l : Int)).toNat = l from rfl] at ho
  rw [HM.out]
  have HD6 := Lib.hid (HD5.out.below hb)
  have HB6 := Lib.hid (HB5.out.trans (hb.mono HB5.out.size))
  obtain ⟨Ac, cc, hv2, -, -, hrc⟩ := ho.reads
  obtain ⟨Aw, cw, hv3, hrw⟩ := hr.reads
  rw [HCL.out] at hv2
  rw [wrdL_len] at hv3
  subst hv2 hv3
  have HRC := Lib.hid (hrc.imp (T := (· < w6.heap.size)) fun b hb => hb.2)
  have HRW := Lib.hid (hrw.imp (T := (· < w6.heap.size)) fun b hb => hb.2)
  clear hb ho hr hrc hrw k0 k1 k2 HD5 HB5
  have HX6 := Lib.hid ((Below.refl w6.heap.size w6).alloc (Nat.le_refl _) (.cells #[.int .i64 ((m : Int) + (l : Int)), .slice Ac (m + l) cc, .slice Aw sg.length cw] 35))
  have HS6 : Hid (OSt (w6.alloc (.cells #[.int .i64 ((m : Int) + (l : Int)), .slice Ac (m + l) cc, .slice Aw sg.length cw] 35)) w.heap.size w6.heap.size A1 A2 Ac Aw c1 c2 cc cw sg mt l m) :=
    ⟨HD6.out.below HX6.out, heap_alloc_new _ _, (HRC.out.below HX6.out).imp fun b hb => by have := HX6.out.size; omega, (HRW.out.below HX6.out).imp fun b hb => by have := HX6.out.size; omega⟩
  have HB6' := Lib.hid (HB6.out.trans (HX6.out.mono HB6.out.size))
  have k0 := HD6.out.c0
  have k1 := HD6.out.c1
  have k2 := HD6.out.c2
  have kk := (HS6.out.pack).2
  clear HX6 HRC HRW
  go_wp2_with fail
  obtain ⟨gb, hgb⟩ : ∃ g, w6.heap.size = g := ⟨_, rfl⟩
  rw [hgb] at HS6 ⊢
  generalize (w6.alloc (.cells #[.int .i64 ((m : Int) + (l : Int)), .slice Ac (m + l) cc, .slice Aw sg.length cw] 35)) = w6a at HS6 HB6' kk ⊢
  clear k0 k1 k2 kk hgb HB6 HD6
  obtain ⟨-, k0, k1, k2, g0, g1, g2⟩ := HS6.out.pack
  refine (long_lw A1 A2 c1 c2 sg mt (l : Int) w6a (· < w6a.heap.size) HS6.out.db.rs HS6.out.db.rm (fun _ h => h) HI.out i HIP.out).mono ?_
  rintro e w7 ⟨vl, rfl, hol, hb⟩
  have HS7 := Lib.hid (HS6.out.below hb)
  have HB7 := Lib.hid (HB6'.out.trans (hb.mono HB6'.out.size))
  obtain ⟨Al, cl, rfl, -, -, hrl⟩ := hol.reads
  have HRL := Lib.hid (hrl.imp (T := (· < w7.heap.size)) fun b hb => hb.2)
  obtain ⟨ys, hys⟩ : ∃ ys, lwL sg mt i = ys := ⟨_, rfl⟩
  rw [hys] at HRL HWV HLW HGI ⊢
  obtain ⟨q, hq⟩ : ∃ q, ys.length = q := ⟨_, rfl⟩
  have HQ := Lib.hid hq
  rw [hq]
  clear hb hol hrl hys hq HS6 HB6' k0 k1 k2 g0 g1 g2
  obtain ⟨-, k0, k1, k2, g0, g1, g2⟩ := HS7.out.pack
  go_wp2_with fail
  have hs9 := sums_any Al Ac cl cc p ys (cmpL sg mt l) w7 (· < w7.heap.size) (· < w7.heap.size) HRL.out (fun _ h => h) HS7.out.cm (fun _ h => h) (Nat.le_trans HLW.out (by decide)) (by rw [HCL.out]; exact hmp) (by rw [HCL.out]; omega) (by omega) (by rw [HCL.out]; exact HWV.out) HCB.out
  rw [HCL.out, HQ.out] at hs9
  refine hs9.mono ?_
  rintro e w8 ⟨vs, rfl, hos, hb⟩
  have HS8 := Lib.hid (HS7.out.below hb)
  have HB8 := Lib.hid (HB7.out.trans (hb.mono HB7.out.size))
  obtain ⟨As, cs, hvs, -, -, hrs⟩ := hos.reads
  rw [smL_len] at hvs
  subst hvs
  have HRS := Lib.hid (hrs.imp (T := (· < w8.heap.size)) fun b hb => hb.2)
  obtain ⟨ls, hls⟩ : ∃ ls, smL (cmpL sg mt l) (exL (m + l) ys) p (m + l) = ls := ⟨_, rfl⟩
  have hll : ls.length = p := by rw [← hls, smL_len]
  rw [hls] at HRS HGI
  have HLL := Lib.hid hll
  obtain ⟨b, off, rfl, -, hcc⟩ := HRS.out.at_ (k := i) (by rw [hll]; exact hip)
  have c3 := hcc i (by rw [hll]; exact hip)
  rw [HGI.out i hip, if_pos rfl] at c3
  have i1 : (0 : Int) ≤ (i : Int) ∧ (i : Int) < (p : Int) := by omega
  clear hb hos hrs hs9 hls hll HS7 HB7 hcc HRL HWV k0 k1 k2 g0 g1 g2
  obtain ⟨-, k0, k1, k2, g0, g1, g2⟩ := HS8.out.pack
  go_wp2_with fail
  clear k0 k1 k2 g0 g1 g2 c3
  go_loopw [77] (fun j' wr => ∃ j : Nat, j ≤ p ∧ j' = .int .i64 j ∧ Hid (OSt wr w.heap.size gb A1 A2 Ac Aw c1 c2 cc cw sg mt l m) ∧ Hid (Below w.heap.size w wr) ∧ Hid (RI wr (· < wr.heap.size) (some ⟨b, off, none⟩) ls)) (fun j' _ => p - (intOf j').toNat)
  case atStart => exact ⟨0, Nat.zero_le _, rfl, HS8, HB8, HRS⟩
  case round =>
    clear HS8 HB8 HRS
    obtain ⟨j, hj, rfl, HS, HB, HR⟩ := hrel
    by_cases hlt : j < p
    · obtain ⟨-, k0, k1, k2, g0, g1, g2⟩ := HS.out.pack
      by_cases hji : j = i
      · subst hji
        have he : ((j : Int) == (j : Int)) = true := by rw [beq_iff_eq]
        go_wp2_with fail
        go_roundw
        case rel => exact ⟨j + 1, by omega, by go_num, HS, HB, HR⟩
        case measure => simp [intOf]; omega
      · have he : ((j : Int) == (i : Int)) = false := by rw [beq_eq_false_iff_ne]; omega
        have HNE : Hid (i ≠ j) := fun e => hji e.symm
        have HJP : Hid ((j : Int) < ((strandsL sg mt).length : Int) + (l : Int)) := by rw [HNP.out]; exact (by omega : (j : Int) < (p : Int))
        have hgj := HGI.out j hlt
        rw [if_neg HNE.out] at hgj
        have HGJ := Lib.hid hgj
        clear hji hgj
        go_wp2_with fail
        refine (number_ok A1 A2 c1 c2 sg mt (l : Int) wr (· < wr.heap.size) HS.out.db.rs HS.out.db.rm (fun _ h => h) HI.out i j HIP.out HJP.out HNE.out).mono ?_
        rintro e w9 ⟨rfl, hb⟩
        have HS9 := Lib.hid (HS.out.below hb)
        have HB9 := Lib.hid (HB.out.trans (hb.mono HB.out.size))
        have HR9 := Lib.hid ((HR.out.below hb).imp (T := (· < w9.heap.size)) fun b h => Nat.lt_of_lt_of_le h hb.size)
        obtain ⟨b9, off9, e9, -, hcc⟩ := HR9.out.at_ (k := j) (by rw [HLL.out]; exact hlt)
        injection e9 with e9
        injection e9 with e91 e92
        subst e91 e92
        have c3 := hcc j (by rw [HLL.out]; exact hlt)
        rw [HGJ.out] at c3
        obtain ⟨x, hx⟩ : ∃ x, lkU sg mt i j = x := ⟨_, rfl⟩
        rw [hx] at c3 ⊢
        have hxx : (x != x) = false := by rw [bne_eq_false_iff_eq]
        have i2 : (0 : Int) ≤ (j : Int) ∧ (j : Int) < (p : Int) := by omega
        clear hb hcc hx k0 k1 k2 g0 g1 g2 HS HB HR
        go_wp2_with fail
        go_roundw
        case rel => exact ⟨j + 1, by omega, by go_num, HS9, HB9, HR9⟩
        case measure => simp [intOf]; omega
    · obtain rfl : p = j := by omega
      clear hlt
      go_wp2_with fail
      go_ret
      exact ⟨rfl, HB.out⟩
end
theorem wirtingerLinks_walk (A1 A2 : Option Addr) (c1 c2 : Nat) (sg mt : List Int) (L : Int) (kk : Int) (w : World) (hd : DArg w A1 A2 sg mt L) (wf : (Lit.int .u8 kk).wf = true) :
    Calls Try.prog 11 #[.agg #[.slice A1 sg.length c1, .slice A2 mt.length c2, .int .i64 L], .int .u8 kk] w fun e w' => e = .returned (.bool true) ∧ Below w.heap.size w w' := by
  have hk : 0 ≤ kk ∧ kk ≤ 255 := by
    simp [Lit.wf, IntKind.min, IntKind.max, IntKind.signed, IntKind.bits] at wf
    omega
  clear wf
  by_cases hf : fewB sg mt L
  · by_cases hi : IsD sg mt L
    · by_cases hz : ((strandsL sg mt).length : Int) + L = 0
      · exact wll_zero A1 A2 c1 c2 sg mt L w hd kk hf hi hz
      · exact wll_ok A1 A2 c1 c2 sg mt L w hd kk hf hi hz hk
    · exact wll_no A1 A2 c1 c2 sg mt L w hd kk hf hi
  · exact wll_great A1 A2 c1 c2 sg mt L w hd kk hf
end Go.Proofs.Ytcjgfncbecbhjaa

