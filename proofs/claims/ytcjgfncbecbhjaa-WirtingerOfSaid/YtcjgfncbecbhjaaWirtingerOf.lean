/-
  The law WirtingerOf, walked: the call returns true and writes nothing that was there.
-/
import Derived.Test.YtcjgfncbecbhjaaOfNo
import Derived.Deep.RegionHeld3
namespace Go.Proofs.Ytcjgfncbecbhjaa
open Go.RowKit

theorem below_of_drewN {w w' : World} {n : Nat} (h : w' = w.drewN n) : Below w.heap.size w w' := by rw [h]; exact below_drewN (Below.refl _ _) n

section
variable (A1 A2 : Option Addr) (c1 c2 : Nat) (sg mt : List Int) (L : Int) (w : World) (hd : DArg w A1 A2 sg mt L)
include hd

set_option maxHeartbeats 2000000 in
theorem wol_great (hf : ¬ fewB sg mt L) :
    Calls Try.prog 4 #[.agg #[.slice A1 sg.length c1, .slice A2 mt.length c2, .int .i64 L]] w fun e w' => e = .returned (.bool true) ∧ Below w.heap.size w w' := by
  have HD := Lib.hid (DBox.start (c1 := c1) (c2 := c2) (L := L) (· < w.heap.size) hd.rs hd.rm (fun _ h => h))
  have HL1 := Lib.hid hd.ls
  have HL2 := Lib.hid hd.lm
  have HF := Lib.hid hf
  clear hd hf
  go_enter Try.func4, Try.ntmps4
  go_wp2_with fail
  refine (awake22 _).mono ?_
  rintro e w1 ⟨rfl, hb⟩
  have HD1 := Lib.hid (HD.out.below hb)
  have HB1 := Lib.hid (below_box (o := (.cells #[.slice A1 sg.length c1, .slice A2 mt.length c2, .int .i64 L] 24)) (by simpa using hb))
  clear hb
  have k0 := HD1.out.c0
  have k1 := HD1.out.c1
  have k2 := HD1.out.c2
  go_wp2_with fail
  refine (few_no A1 A2 c1 c2 sg mt L w1 HF.out).mono ?_
  rintro e w2 ⟨rfl, hb⟩
  have HD2 := Lib.hid (HD1.out.below hb)
  have HB2 := Lib.hid (HB1.out.trans (hb.mono HB1.out.size))
  clear hb k0 k1 k2 HD1 HB1
  have k0 := HD2.out.c0
  have k1 := HD2.out.c1
  have k2 := HD2.out.c2
  go_wp2_with fail
  refine (awake22 _).mono ?_
  rintro e w3 ⟨rfl, hb⟩
  have HD3 := Lib.hid (HD2.out.below hb)
  have HB3 := Lib.hid (HB2.out.trans (hb.mono HB2.out.size))
  clear hb k0 k1 k2 HD2 HB2
  have k0 := HD3.out.c0
  have k1 := HD3.out.c1
  have k2 := HD3.out.c2
  go_wp2_with fail
  go_ret
  exact ⟨rfl, HB3.out⟩

set_option maxHeartbeats 2000000 in
theorem wol_no (hf : fewB sg mt L) (hno : ¬ IsD sg mt L) :
    Calls Try.prog 4 #[.agg #[.slice A1 sg.length c1, .slice A2 mt.length c2, .int .i64 L]] w fun e w' => e = .returned (.bool true) ∧ Below w.heap.size w w' := by
  have HD := Lib.hid (DBox.start (c1 := c1) (c2 := c2) (L := L) (· < w.heap.size) hd.rs hd.rm (fun _ h => h))
  have HL1 := Lib.hid hd.ls
  have HL2 := Lib.hid hd.lm
  have HF := Lib.hid hf
  have HNO := Lib.hid hno
  have HR := Lib.hid (decide_eq_false hno)
  clear hd hf hno
  go_enter Try.func4, Try.ntmps4
  go_wp2_with fail
  refine (awake22 _).mono ?_
  rintro e w1 ⟨rfl, hb⟩
  have HD1 := Lib.hid (HD.out.below hb)
  have HB1 := Lib.hid (below_box (o := (.cells #[.slice A1 sg.length c1, .slice A2 mt.length c2, .int .i64 L] 24)) (by simpa using hb))
  clear hb
  have k0 := HD1.out.c0
  have k1 := HD1.out.c1
  have k2 := HD1.out.c2
  go_wp2_with fail
  refine (few_yes A1 A2 c1 c2 sg mt L w1 HF.out).mono ?_
  rintro e w2 ⟨rfl, hb⟩
  have HD2 := Lib.hid (HD1.out.below hb)
  have HB2 := Lib.hid (HB1.out.trans (hb.mono HB1.out.size))
  clear hb k0 k1 k2 HD1 HB1
  have k0 := HD2.out.c0
  have k1 := HD2.out.c1
  have k2 := HD2.out.c2
  go_wp2_with fail
  refine (of_no A1 A2 c1 c2 sg mt L w2 (· < w2.heap.size) HD2.out.rs HD2.out.rm (fun _ h => h) HL1.out HL2.out HNO.out).mono ?_
  rintro e w3 ⟨rfl, hb⟩
  have HD3 := Lib.hid (HD2.out.below hb)
  have HB3 := Lib.hid (HB2.out.trans (hb.mono HB2.out.size))
  clear hb k0 k1 k2 HD2 HB2
  have k0 := HD3.out.c0
  have k1 := HD3.out.c1
  have k2 := HD3.out.c2
  have HG3 : Hid (GBox (w3.alloc (.cells #[.int .i64 0, .slice none 0 0, .slice none 0 0] 35)) w3.heap.size 0 (.slice none 0 0) (.slice none 0 0)) := heap_alloc_new _ _
  have HX3 := Lib.hid ((Below.refl w3.heap.size w3).alloc (Nat.le_refl _) (.cells #[.int .i64 0, .slice none 0 0, .slice none 0 0] 35))
  have HD3' := Lib.hid (HD3.out.below HX3.out)
  have HB3' := Lib.hid (HB3.out.trans (HX3.out.mono HB3.out.size))
  have j0 := HD3'.out.c0
  have j1 := HD3'.out.c1
  have j2 := HD3'.out.c2
  go_wp2_with fail
  refine (rvalid_is (· < (w3.alloc (.cells #[.int .i64 0, .slice none 0 0, .slice none 0 0] 35)).heap.size) false HD3'.out.rs HD3'.out.rm (fun _ h => h) HL1.out HL2.out HR.out).mono ?_
  rintro e w4 ⟨rfl, hb⟩
  obtain ⟨g0, g1, g2⟩ := (HG3.out.keep (hb.block _ (by simp))).cells
  have HB4 := Lib.hid (HB3'.out.trans (hb.mono HB3'.out.size))
  clear hb k0 k1 k2 j0 j1 j2
  go_wp2_with fail
  go_ret
  exact ⟨rfl, HB4.out⟩

set_option maxHeartbeats 8000000 in
theorem wol_ok (hf : fewB sg mt L) (hi : IsD sg mt L) :
    Calls Try.prog 4 #[.agg #[.slice A1 sg.length c1, .slice A2 mt.length c2, .int .i64 L]] w fun e w' => e = .returned (.bool true) ∧ Below w.heap.size w w' := by
  have HD := Lib.hid (DBox.start (c1 := c1) (c2 := c2) (L := L) (· < w.heap.size) hd.rs hd.rm (fun _ h => h))
  have HL1 := Lib.hid hd.ls
  have HL2 := Lib.hid hd.lm
  have HF := Lib.hid hf
  have HI := Lib.hid hi
  have hcn : arC sg mt ≤ 256 := by
    have h1 := cnt_le (headB (arR sg mt)) mt.length
    have h2 := hi.1
    have h3 := hi.2.1
    unfold arC; omega
  obtain ⟨m, hm⟩ : ∃ m, arC sg mt = m := ⟨_, rfl⟩
  rw [hm] at hcn
  have HM := Lib.hid hm
  obtain ⟨l, rfl⟩ : ∃ l : Nat, L = (l : Int) := ⟨L.toNat, by have := hi.2.2.1; omega⟩
  have hL2 : l ≤ 64 := by have := hi.2.2.2.1; omega
  have hcl : (cmpL sg mt l).length = m + l := by rw [cmp_len, hm]
  have HCL := Lib.hid hcl
  have hml : m + l ≤ maxLen := by unfold maxLen; omega
  have HML := Lib.hid hml
  have hsl : sg.length ≤ maxLen := hd.ls
  have HSL := Lib.hid hsl
  clear hd hf hi hm hcl hml hsl
  go_enter Try.func4, Try.ntmps4
  go_wp2_with fail
  refine (awake22 _).mono ?_
  rintro e w1 ⟨rfl, hb⟩
  have HD1 := Lib.hid (HD.out.below hb)
  have HB1 := Lib.hid (below_box (o := (.cells #[.slice A1 sg.length c1, .slice A2 mt.length c2, .int .i64 (l : Int)] 24)) (by simpa using hb))
  clear hb
  have k0 := HD1.out.c0
  have k1 := HD1.out.c1
  have k2 := HD1.out.c2
  go_wp2_with fail
  refine (few_yes A1 A2 c1 c2 sg mt (l : Int) w1 HF.out).mono ?_
  rintro e w2 ⟨rfl, hb⟩
  have HD2 := Lib.hid (HD1.out.below hb)
  have HB2 := Lib.hid (HB1.out.trans (hb.mono HB1.out.size))
  clear hb k0 k1 k2 HD1 HB1
  have k0 := HD2.out.c0
  have k1 := HD2.out.c1
  have k2 := HD2.out.c2
  go_wp2_with fail
  refine (of_ok A1 A2 c1 c2 sg mt (l : Int) w2 (· < w2.heap.size) HD2.out.rs HD2.out.rm (fun _ h => h) HI.out).mono ?_
  rintro e w3 ⟨v2, v3, rfl, ho, hr, hb⟩
  rw [show ((l : Int)).toNat = l from rfl] at ho
  rw [HM.out]
  have HD3 := Lib.hid (HD2.out.below hb)
  have HB3 := Lib.hid (HB2.out.trans (hb.mono HB2.out.size))
  obtain ⟨Ac, cc, hv2, -, -, hrc⟩ := ho.reads
  obtain ⟨Aw, cw, hv3, hrw⟩ := hr.reads
  rw [HCL.out] at hv2
  rw [wrdL_len] at hv3
  subst hv2 hv3
  have HRC := Lib.hid (hrc.imp (T := (· < w3.heap.size)) fun b hb => hb.2)
  have HRW := Lib.hid (hrw.imp (T := (· < w3.heap.size)) fun b hb => hb.2)
  clear hb ho hr hrc hrw k0 k1 k2 HD2 HB2
  have HX3 := Lib.hid ((Below.refl w3.heap.size w3).alloc (Nat.le_refl _) (.cells #[.int .i64 ((m : Int) + (l : Int)), .slice Ac (m + l) cc, .slice Aw sg.length cw] 35))
  have HS3 : Hid (OSt (w3.alloc (.cells #[.int .i64 ((m : Int) + (l : Int)), .slice Ac (m + l) cc, .slice Aw sg.length cw] 35)) w.heap.size w3.heap.size A1 A2 Ac Aw c1 c2 cc cw sg mt l m) :=
    ⟨HD3.out.below HX3.out, heap_alloc_new _ _, (HRC.out.below HX3.out).imp fun b hb => by have := HX3.out.size; omega, (HRW.out.below HX3.out).imp fun b hb => by have := HX3.out.size; omega⟩
  have HB3' := Lib.hid (HB3.out.trans (HX3.out.mono HB3.out.size))
  have k0 := HD3.out.c0
  have k1 := HD3.out.c1
  have k2 := HD3.out.c2
  have kk := (HS3.out.pack).2
  clear HX3 HRC HRW
  go_wp2_with fail
  generalize (w3.alloc (.cells #[.int .i64 ((m : Int) + (l : Int)), .slice Ac (m + l) cc, .slice Aw sg.length cw] 35)) = w4 at HS3 HB3' kk ⊢
  clear k0 k1 k2 kk
  refine (rvalid_is (· < w4.heap.size) true HS3.out.db.rs HS3.out.db.rm (fun _ h => h) HL1.out HL2.out (decide_eq_true HI.out)).mono ?_
  rintro e w5 ⟨rfl, hb⟩
  obtain ⟨gb, hgb⟩ : ∃ g, w3.heap.size = g := ⟨_, rfl⟩
  rw [hgb] at HS3 ⊢
  have HS5 := Lib.hid (HS3.out.below hb)
  have HB5 := Lib.hid (HB3'.out.trans (hb.mono HB3'.out.size))
  clear hb hgb HS3 HB3' HB3 HD3
  have HS5d := Lib.hid (HS5.out.below (Below.refl _ _).drew)
  obtain ⟨-, k0, k1, k2, g0, g1, g2⟩ := HS5.out.pack
  go_wp2_with fail
  have he : (((m + l : Nat) : Int) == (m : Int) + (l : Int)) = true := by rw [beq_iff_eq]; simp
  have he2 : ((m : Int) + (l : Int) == (m : Int) + (l : Int)) = true := by rw [beq_iff_eq]
  go_region_held3 (fun w' => Hid (OSt w' w.heap.size gb A1 A2 Ac Aw c1 c2 cc cw sg mt l m) ∧ w'.cell? ⟨w.heap.size, 0, none⟩ = some (.slice A1 sg.length c1) ∧ w'.cell? ⟨w.heap.size, 1, none⟩ = some (.slice A2 mt.length c2) ∧ w'.cell? ⟨w.heap.size, 2, none⟩ = some (.int .i64 (l : Int)) ∧
      w'.cell? ⟨gb, 0, none⟩ = some (.int .i64 ((m : Int) + (l : Int))) ∧ w'.cell? ⟨gb, 1, none⟩ = some (.slice Ac (m + l) cc) ∧ w'.cell? ⟨gb, 2, none⟩ = some (.slice Aw sg.length cw))
    (first | exact HS5d.out.pack | exact hSa.pack | exact hSb.pack | exact hSc.pack | exact hSd.pack)
    (first
      | (go_at_call 19; ((refine (rcomp_ok A1 A2 c1 c2 sg mt (l : Int) w5.drew (· < w5.drew.heap.size) HS5d.out.db.rs HS5d.out.db.rm (fun _ h => h) HI.out).mono ?_); rintro e9 wa ⟨va, rfl, hoa, hba⟩; have hSa := HS5d.out.below hba; obtain ⟨Aa, ca, hva, -, -, hra⟩ := hoa.reads; rw [show ((l : Int)).toNat = l from rfl, HCL.out] at hva; subst hva))
      | (go_at_call 17; ((refine (sequal_is (· < wa.heap.size) _ true hSa.cm hra HCL.out HCL.out HML.out HML.out (decide_eq_true rfl)).mono ?_); rintro e9 wb ⟨rfl, nb, hwb⟩; have hbb := below_of_drewN hwb; clear hwb; have hSb := hSa.below hbb))
      | (go_at_call 21; ((refine (rwords_ok A1 A2 c1 c2 sg mt (l : Int) wb (· < wb.heap.size) hSb.db.rs hSb.db.rm (fun _ h => h) HI.out).mono ?_); rintro e9 wc ⟨vc, rfl, hoc, hbc⟩; have hSc := hSb.below hbc; obtain ⟨Ax, cx, hvc, hrc⟩ := hoc.reads; rw [wrdL_len] at hvc; subst hvc))
      | (go_at_call 20; ((refine (same_true (· < wc.heap.size) _ hSc.wd hrc (wrdL_len sg mt sg.length) rfl HSL.out).mono ?_); rintro e9 wd ⟨rfl, nd, hwd⟩; have hbd := below_of_drewN hwd; clear hwd; have hSd := hSc.below hbd)))
  have hs5 := HB5.out.size
  have hsa := hba.size
  have hsb := hbb.size
  have hsc := hbc.size
  have hfin := Lib.hid ((((HB5.out.drew.trans (hba.mono hs5)).trans (hbb.mono (Nat.le_trans hs5 hsa))).trans (hbc.mono (Nat.le_trans (Nat.le_trans hs5 hsa) hsb))).trans (hbd.mono (Nat.le_trans (Nat.le_trans (Nat.le_trans hs5 hsa) hsb) hsc)))
  clear hba hbb hbc hbd hSa hSb hSc hSd hra hrc hoa hoc
  go_wp2_with fail
  go_ret
  exact ⟨rfl, hfin.out⟩

theorem wirtingerOf_walk : 
    Calls Try.prog 4 #[.agg #[.slice A1 sg.length c1, .slice A2 mt.length c2, .int .i64 L]] w fun e w' => e = .returned (.bool true) ∧ Below w.heap.size w w' := by
  by_cases hf : fewB sg mt L
  · by_cases hi : IsD sg mt L
    · exact wol_ok A1 A2 c1 c2 sg mt L w hd hf hi
    · exact wol_no A1 A2 c1 c2 sg mt L w hd hf hi
  · exact wol_great A1 A2 c1 c2 sg mt L w hd hf
end
end Go.Proofs.Ytcjgfncbecbhjaa

