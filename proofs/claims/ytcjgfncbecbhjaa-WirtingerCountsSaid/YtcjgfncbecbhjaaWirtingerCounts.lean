/-
  The law WirtingerCounts, walked: the call returns true and writes nothing that was there.
-/
import Derived.Test.YtcjgfncbecbhjaaAw22
import Derived.Test.YtcjgfncbecbhjaaCmpA
import Derived.Test.YtcjgfncbecbhjaaCont
import Derived.Test.YtcjgfncbecbhjaaOSt
import Derived.Test.YtcjgfncbecbhjaaDArg
namespace Go.Proofs.Ytcjgfncbecbhjaa
open Go.RowKit

/-- at a strand: does it pass under? -/
theorem cnt1_any (y : Int) (w : World) (hy : ∃ h : Nat, y = (h : Int)) : Calls Try.prog 29 #[.int .i64 y] w fun e w' => e = .returned (.bool (decide (y % 2 = 0))) ∧ w = w' := by
  obtain ⟨h, rfl⟩ := hy
  have hm : ((h : Int)).tmod 2 = ((h % 2 : Nat) : Int) := by rw [Int.tmod_eq_emod_of_nonneg (by omega)]; omega
  by_cases hp : h % 2 = 0
  · have hd : decide ((h : Int) % 2 = 0) = true := decide_eq_true (by omega)
    rw [hd]
    rw [hp] at hm
    have hm : ((h : Int)).tmod 2 = 0 := hm
    clear hd hp
    go_enter Try.func29, Try.ntmps29
    go_wp2_with fail
    go_ret
    exact ⟨rfl, rfl⟩
  · have hd : decide ((h : Int) % 2 = 0) = false := decide_eq_false (by omega)
    rw [hd]
    rw [show h % 2 = 1 by omega] at hm
    have hm : ((h : Int)).tmod 2 = 1 := hm
    clear hd hp
    go_enter Try.func29, Try.ntmps29
    go_wp2_with fail
    go_ret
    exact ⟨rfl, rfl⟩
theorem enCnt : Enters 29 := enters_of Try.func29 (by kernel_rfl) rfl
theorem gi_ints_ex (l : List Nat) (k : Nat) (h : k < (ints l).length) : ∃ n : Nat, gi (ints l) k = (n : Int) := ⟨gN l k, gi_ints (by rw [ints_length] at h; exact h)⟩
theorem prCnt (l : List Nat) : PrOk 29 (fun y => decide (y % 2 = 0)) (ints l) := fun k h W => cnt1_any _ W (gi_ints_ex l k h)
theorem any_noEv (l : List Nat) : (ints l).any (fun y => decide (y % 2 = 0)) = !noEv l := by
  unfold ints noEv
  rw [List.any_map]
  induction l with
  | nil => rfl
  | cons a l ih =>
    rw [List.any_cons, List.all_cons, ih, Bool.not_and]
    congr 1
    show decide ((a : Int) % 2 = 0) = !decide (a % 2 = 1)
    by_cases h : a % 2 = 0
    · rw [decide_eq_true (by omega), decide_eq_false (by omega)]; rfl
    · rw [decide_eq_false (by omega), decide_eq_true (by omega)]; rfl
/-- how many of the first k strands never pass under -/
def ovN (sg mt : List Int) (k : Nat) : Nat := (((strandsL sg mt).take k).filter noEv).length
theorem ovN_succ {sg mt : List Int} {k : Nat} (hk : k < (strandsL sg mt).length) : ovN sg mt (k + 1) = ovN sg mt k + if noEv (stN sg mt k) = true then 1 else 0 := by
  unfold ovN
  rw [List.take_succ_eq_append_getElem hk, List.filter_append, List.length_append, stN_eq hk]
  by_cases h : noEv (stN sg mt k) = true
  · simp [h]
  · simp [h]
theorem ovN_le (sg mt : List Int) (k : Nat) : ovN sg mt k ≤ k := by
  unfold ovN
  have h1 := List.length_filter_le noEv ((strandsL sg mt).take k)
  rw [List.length_take] at h1
  omega
section
variable (A1 A2 : Option Addr) (c1 c2 : Nat) (sg mt : List Int) (L : Int) (w : World) (hd : DArg w A1 A2 sg mt L)
include hd

set_option maxHeartbeats 2000000 in
theorem wcl_great (hf : ¬ fewB sg mt L) :
    Calls Try.prog 7 #[.agg #[.slice A1 sg.length c1, .slice A2 mt.length c2, .int .i64 L]] w fun e w' => e = .returned (.bool true) ∧ Below w.heap.size w w' := by
  have HD := Lib.hid (DBox.start (c1 := c1) (c2 := c2) (L := L) (· < w.heap.size) hd.rs hd.rm (fun _ h => h))
  have HL1 := Lib.hid hd.ls
  have HL2 := Lib.hid hd.lm
  have HF := Lib.hid hf
  clear hd hf
  go_enter Try.func7, Try.ntmps7
  go_wp2_with fail
  refine (awake22 _).mono ?_
  rintro e w1 ⟨rfl, hb⟩
  have HD1 := Lib.hid (HD.out.below hb)
  have HB1 := Lib.hid (below_box (o := (.cells #[.slice A1 sg.length c1, .slice A2 mt.length c2, .int .i64 L] 24)) (by simpa using hb))
  clear hb
  have k0 := HD1.out.c0
  have k1 := HD1.out.c1
  have k2 := HD1.out.c2
  go_wp2_with fail
  refine (few_no A1 A2 c1 c2 sg mt L w1 HF.out).mono ?_
  rintro e w2 ⟨rfl, hb⟩
  have HD2 := Lib.hid (HD1.out.below hb)
  have HB2 := Lib.hid (HB1.out.trans (hb.mono HB1.out.size))
  clear hb k0 k1 k2 HD1 HB1
  have k0 := HD2.out.c0
  have k1 := HD2.out.c1
  have k2 := HD2.out.c2
  go_wp2_with fail
  refine (awake22 _).mono ?_
  rintro e w3 ⟨rfl, hb⟩
  have HD3 := Lib.hid (HD2.out.below hb)
  have HB3 := Lib.hid (HB2.out.trans (hb.mono HB2.out.size))
  clear hb k0 k1 k2 HD2 HB2
  have k0 := HD3.out.c0
  have k1 := HD3.out.c1
  have k2 := HD3.out.c2
  go_wp2_with fail
  go_ret
  exact ⟨rfl, HB3.out⟩

set_option maxHeartbeats 2000000 in
theorem wcl_no (hf : fewB sg mt L) (hno : ¬ IsD sg mt L) :
    Calls Try.prog 7 #[.agg #[.slice A1 sg.length c1, .slice A2 mt.length c2, .int .i64 L]] w fun e w' => e = .returned (.bool true) ∧ Below w.heap.size w w' := by
  have HD := Lib.hid (DBox.start (c1 := c1) (c2 := c2) (L := L) (· < w.heap.size) hd.rs hd.rm (fun _ h => h))
  have HL1 := Lib.hid hd.ls
  have HL2 := Lib.hid hd.lm
  have HF := Lib.hid hf
  have HR := Lib.hid (decide_eq_false hno)
  clear hd hf hno
  go_enter Try.func7, Try.ntmps7
  go_wp2_with fail
  refine (awake22 _).mono ?_
  rintro e w1 ⟨rfl, hb⟩
  have HD1 := Lib.hid (HD.out.below hb)
  have HB1 := Lib.hid (below_box (o := (.cells #[.slice A1 sg.length c1, .slice A2 mt.length c2, .int .i64 L] 24)) (by simpa using hb))
  clear hb
  have k0 := HD1.out.c0
  have k1 := HD1.out.c1
  have k2 := HD1.out.c2
  go_wp2_with fail
  refine (few_yes A1 A2 c1 c2 sg mt L w1 HF.out).mono ?_
  rintro e w2 ⟨rfl, hb⟩
  have HD2 := Lib.hid (HD1.out.below hb)
  have HB2 := Lib.hid (HB1.out.trans (hb.mono HB1.out.size))
  clear hb k0 k1 k2 HD1 HB1
  have k0 := HD2.out.c0
  have k1 := HD2.out.c1
  have k2 := HD2.out.c2
  go_wp2_with fail
  refine (dvalid_is (· < w2.heap.size) false HD2.out.rs HD2.out.rm (fun _ h => h) HL1.out HL2.out HR.out).mono ?_
  rintro e w3 ⟨rfl, hb⟩
  have HD3 := Lib.hid (HD2.out.below hb)
  have HB3 := Lib.hid (HB2.out.trans (hb.mono HB2.out.size))
  clear hb k0 k1 k2 HD2 HB2
  have k0 := HD3.out.c0
  have k1 := HD3.out.c1
  have k2 := HD3.out.c2
  go_wp2_with fail
  refine (awake22 _).mono ?_
  rintro e w4 ⟨rfl, hb⟩
  have HD4 := Lib.hid (HD3.out.below hb)
  have HB4 := Lib.hid (HB3.out.trans (hb.mono HB3.out.size))
  clear hb k0 k1 k2 HD3 HB3
  have k0 := HD4.out.c0
  have k1 := HD4.out.c1
  have k2 := HD4.out.c2
  go_wp2_with fail
  go_ret
  exact ⟨rfl, HB4.out⟩

set_option maxHeartbeats 8000000 in
theorem wcl_ok (hf : fewB sg mt L) (hi : IsD sg mt L) :
    Calls Try.prog 7 #[.agg #[.slice A1 sg.length c1, .slice A2 mt.length c2, .int .i64 L]] w fun e w' => e = .returned (.bool true) ∧ Below w.heap.size w w' := by
  have HD := Lib.hid (DBox.start (c1 := c1) (c2 := c2) (L := L) (· < w.heap.size) hd.rs hd.rm (fun _ h => h))
  have HL1 := Lib.hid hd.ls
  have HL2 := Lib.hid hd.lm
  have HF := Lib.hid hf
  have HI := Lib.hid hi
  have hcn : arC sg mt ≤ 256 := by
    have h1 := cnt_le (headB (arR sg mt)) mt.length
    have h2 := hi.1
    have h3 := hi.2.1
    unfold arC; omega
  obtain ⟨m, hm⟩ : ∃ m, arC sg mt = m := ⟨_, rfl⟩
  rw [hm] at hcn
  have HM := Lib.hid hm
  obtain ⟨l, rfl⟩ : ∃ l : Nat, L = (l : Int) := ⟨L.toNat, by have := hi.2.2.1; omega⟩
  have hL2 : l ≤ 64 := by have := hi.2.2.2.1; omega
  have hcl : (cmpL sg mt l).length = m + l := by rw [cmp_len, hm]
  have HCL := Lib.hid hcl
  have hml : m + l ≤ maxLen := by unfold maxLen; omega
  have HML := Lib.hid hml
  have hsl : sg.length ≤ maxLen := hd.ls
  have HSL := Lib.hid hsl
  clear hd hf hi hm hcl hml hsl
  go_enter Try.func7, Try.ntmps7
  go_wp2_with fail
  refine (awake22 _).mono ?_
  rintro e w1 ⟨rfl, hb⟩
  have HD1 := Lib.hid (HD.out.below hb)
  have HB1 := Lib.hid (below_box (o := (.cells #[.slice A1 sg.length c1, .slice A2 mt.length c2, .int .i64 (l : Int)] 24)) (by simpa using hb))
  clear hb
  have k0 := HD1.out.c0
  have k1 := HD1.out.c1
  have k2 := HD1.out.c2
  go_wp2_with fail
  refine (few_yes A1 A2 c1 c2 sg mt (l : Int) w1 HF.out).mono ?_
  rintro e w2 ⟨rfl, hb⟩
  have HD2 := Lib.hid (HD1.out.below hb)
  have HB2 := Lib.hid (HB1.out.trans (hb.mono HB1.out.size))
  clear hb k0 k1 k2 HD1 HB1
  have k0 := HD2.out.c0
  have k1 := HD2.out.c1
  have k2 := HD2.out.c2
  go_wp2_with fail
  refine (dvalid_is (· < w2.heap.size) true HD2.out.rs HD2.out.rm (fun _ h => h) HL1.out HL2.out (decide_eq_true HI.out)).mono ?_
  rintro e w3 ⟨rfl, hb⟩
  have HD3 := Lib.hid (HD2.out.below hb)
  have HB3 := Lib.hid (HB2.out.trans (hb.mono HB2.out.size))
  clear hb k0 k1 k2 HD2 HB2
  have k0 := HD3.out.c0
  have k1 := HD3.out.c1
  have k2 := HD3.out.c2
  go_wp2_with fail
  refine (of_ok A1 A2 c1 c2 sg mt (l : Int) w3 (· < w3.heap.size) HD3.out.rs HD3.out.rm (fun _ h => h) HI.out).mono ?_
  rintro e w4 ⟨v2, v3, rfl, ho, hr, hb⟩
  rw [show ((l : Int)).toNat = l from rfl] at ho
  rw [HM.out]
  have HD4 := Lib.hid (HD3.out.below hb)
  have HB4 := Lib.hid (HB3.out.trans (hb.mono HB3.out.size))
  obtain ⟨Ac, cc, hv2, -, -, hrc⟩ := ho.reads
  obtain ⟨Aw, cw, hv3, hrw⟩ := hr.reads
  rw [HCL.out] at hv2
  rw [wrdL_len] at hv3
  subst hv2 hv3
  have HRC := Lib.hid (hrc.imp (T := (· < w4.heap.size)) fun b hb => hb.2)
  have HRW := Lib.hid (hrw.imp (T := (· < w4.heap.size)) fun b hb => hb.2)
  clear hb ho hr hrc hrw k0 k1 k2 HD3 HB3
  have HX4 := Lib.hid ((Below.refl w4.heap.size w4).alloc (Nat.le_refl _) (.cells #[.int .i64 ((m : Int) + (l : Int)), .slice Ac (m + l) cc, .slice Aw sg.length cw] 35))
  have HS4 : Hid (OSt (w4.alloc (.cells #[.int .i64 ((m : Int) + (l : Int)), .slice Ac (m + l) cc, .slice Aw sg.length cw] 35)) w.heap.size w4.heap.size A1 A2 Ac Aw c1 c2 cc cw sg mt l m) :=
    ⟨HD4.out.below HX4.out, heap_alloc_new _ _, (HRC.out.below HX4.out).imp fun b hb => by have := HX4.out.size; omega, (HRW.out.below HX4.out).imp fun b hb => by have := HX4.out.size; omega⟩
  have HB4' := Lib.hid (HB4.out.trans (HX4.out.mono HB4.out.size))
  have k0 := HD4.out.c0
  have k1 := HD4.out.c1
  have k2 := HD4.out.c2
  have kk := (HS4.out.pack).2
  clear HX4 HRC HRW
  go_wp2_with fail
  obtain ⟨gb, hgb⟩ : ∃ g, w4.heap.size = g := ⟨_, rfl⟩
  rw [hgb] at HS4 ⊢
  generalize (w4.alloc (.cells #[.int .i64 ((m : Int) + (l : Int)), .slice Ac (m + l) cc, .slice Aw sg.length cw] 35)) = w4a at HS4 HB4' kk ⊢
  clear k0 k1 k2 kk hgb HB4 HD4
  obtain ⟨-, k0, k1, k2, g0, g1, g2⟩ := HS4.out.pack
  refine (wArcs_ok A1 A2 c1 c2 sg mt (l : Int) w4a (· < w4a.heap.size) HS4.out.db.rs HS4.out.db.rm (fun _ h => h) HI.out).mono ?_
  rintro e w5 ⟨va, rfl, hoa, hb⟩
  have HS5 := Lib.hid (HS4.out.below hb)
  have HB5 := Lib.hid (HB4'.out.trans (hb.mono HB4'.out.size))
  obtain ⟨Aa, ca, rfl, -, -, -⟩ := hoa.shape
  rw [HM.out]
  clear hoa
  clear hb HS4 HB4'
  obtain ⟨-, k0, k1, k2, g0, g1, g2⟩ := HS5.out.pack
  have hs1 : IntKind.i64.wrap ((sg.length : Int) + (l : Int)) = (sg.length : Int) + (l : Int) := IntWalk.i64_in _ (by have := HI.out.1; omega)
  go_wp2_with fail
  refine (strands_ok A1 A2 c1 c2 sg mt (l : Int) w5 (· < w5.heap.size) HS5.out.db.rs HS5.out.db.rm (fun _ h => h) HI.out).mono ?_
  rintro e w6 ⟨v, rfl, hr, hb⟩
  have HS6 := Lib.hid (HS5.out.below hb)
  have HB6 := Lib.hid (HB5.out.trans (hb.mono HB5.out.size))
  obtain ⟨As, cs, rfl, hrl⟩ := hr.reads
  have HRL := Lib.hid hrl
  clear hb hr hrl HS5 HB5 k0 k1 k2 g0 g1 g2
  obtain ⟨-, k0, k1, k2, g0, g1, g2⟩ := HS6.out.pack
  have hnl : (strandsL sg mt).length ≤ 256 := by
    have h1 := strandsL_most sg mt
    have h2 := HI.out.1
    have h3 := HI.out.2.1
    omega
  obtain ⟨ns, hns⟩ : ∃ n, (strandsL sg mt).length = n := ⟨_, rfl⟩
  rw [rows_cycs_length, hns]
  rw [hns] at hnl
  have HNS := Lib.hid hns
  clear hns
  obtain ⟨b0, hb0⟩ : ∃ b : Int, (sg.length : Int) + (l : Int) = b := ⟨_, rfl⟩
  have hb1 : 0 ≤ b0 ∧ b0 ≤ 128 := by have := HI.out.1; omega
  rw [hb0] at hs1 ⊢
  have HB0 := Lib.hid hb0
  clear hb0 hs1
  go_wp2_with fail
  go_loopw [8, 44] (fun v i wr => ∃ k : Nat, k ≤ ns ∧ i = .int .i64 k ∧ w6 = wr ∧ v = .int .i64 (b0 + (ovN sg mt k : Int))) (fun _ i _ => ns - (intOf i).toNat)
  case atStart => exact ⟨0, Nat.zero_le _, rfl, rfl, by simp [ovN]⟩
  case round =>
    obtain ⟨k, hk, rfl, rfl, rfl⟩ := hrel
    have hov := ovN_le sg mt k
    by_cases hlt : k < ns
    · have hil : k < (strandsL sg mt).length := by rw [HNS.out]; exact hlt
      obtain ⟨b, off, rfl, -, hc⟩ := HRL.out.at_ (k := k) (by rw [rows_cycs_length]; exact hil)
      obtain ⟨Ak, ck, k3, r3, -⟩ := hc k (by rw [rows_cycs_length]; exact hil)
      rw [rows_getD hil, stN_eq hil] at k3 r3
      rw [ints_length] at k3
      have HR3 := Lib.hid r3
      have hsl : (stN sg mt k).length ≤ maxLen := by
        have h1 := stN_len HI.out.2.2.2.2.2.1 HI.out.2.1 hil
        have h2 := HL2.out
        omega
      have hst := ovN_succ hil
      clear hc r3
      obtain ⟨o, ho⟩ : ∃ o, ovN sg mt k = o := ⟨_, rfl⟩
      rw [ho] at hst hov ⊢
      have HST := Lib.hid hst
      clear hst
      go_wp2_with fail
      cases hq : noEv (stN sg mt k)
      · have HO := Lib.hid (show ovN sg mt (k + 1) = o by rw [HST.out, hq]; simp)
        refine (any_is enCnt _ Ak ck _ (ints (stN sg mt k)) w6 _ HR3.out (ints_length _) hsl (prCnt _) (r := true) (by rw [any_noEv, hq]; rfl)).mono ?_
        rintro e w7 ⟨rfl, rfl⟩
        clear hq
        go_wp2_with fail
        go_roundw
        case rel => exact ⟨k + 1, by omega, by go_num, by trivial, by rw [HO.out]⟩
        case measure => simp [intOf]; omega
      · have HO := Lib.hid (show ovN sg mt (k + 1) = o + 1 by rw [HST.out, hq]; simp)
        refine (any_is enCnt _ Ak ck _ (ints (stN sg mt k)) w6 _ HR3.out (ints_length _) hsl (prCnt _) (r := false) (by rw [any_noEv, hq]; rfl)).mono ?_
        rintro e w7 ⟨rfl, rfl⟩
        clear hq
        have hs2 : IntKind.i64.wrap (b0 + (o : Int) + 1) = b0 + (o : Int) + 1 := IntWalk.i64_in _ (by omega)
        go_wp2_with fail
        go_roundw
        case rel => exact ⟨k + 1, by omega, by go_num, by trivial, by rw [HO.out, Int.natCast_add]; simp only [Int.natCast_one]; congr 1; omega⟩
        case measure => simp [intOf]; omega
    · obtain rfl : ns = k := by omega
      have hfin : b0 + (ovN sg mt ns : Int) = (m : Int) + (l : Int) := by
        have h1 := counts HI.out
        have h2 := HM.out
        have h3 := HB0.out
        have h4 : ovN sg mt ns = ((strandsL sg mt).filter noEv).length := by unfold ovN; rw [List.take_of_length_le (by rw [HNS.out]; exact Nat.le_refl _)]
        omega
      rw [hfin]
      have HGV := Lib.hid (group_valid HI.out hL2)
      have hgv := gvalid_any Ac Aw cc cw ((m : Int) + (l : Int)) (cmpL sg mt l) (wrdL sg mt sg.length) w6 (· < w6.heap.size) (· < w6.heap.size) HS6.out.cm (fun _ h => h) HS6.out.wd (fun _ h => h) (by rw [HCL.out]; exact HML.out) (by rw [wrdL_len]; exact HSL.out)
      rw [HCL.out, wrdL_len, decide_eq_true (by rw [← HM.out]; exact HGV.out)] at hgv
      have HGC := Lib.hid hgv
      clear hlt hov hfin hgv
      have he2 : ((m : Int) + (l : Int) == (m : Int) + (l : Int)) = true := by rw [beq_iff_eq]
      go_wp2_with fail
      refine HGC.out.mono ?_
      rintro e w7 ⟨rfl, hb⟩
      have HS7 := Lib.hid (HS6.out.below hb)
      have HB7 := Lib.hid (HB6.out.trans (hb.mono HB6.out.size))
      clear hb k0 k1 k2 g0 g1 g2
      obtain ⟨-, k0, k1, k2, g0, g1, g2⟩ := HS7.out.pack
      have he3 : ((sg.length : Int) == (sg.length : Int)) = true := by rw [beq_iff_eq]
      go_wp2_with fail
      go_ret
      exact ⟨rfl, HB7.out⟩

theorem wirtingerCounts_walk : 
    Calls Try.prog 7 #[.agg #[.slice A1 sg.length c1, .slice A2 mt.length c2, .int .i64 L]] w fun e w' => e = .returned (.bool true) ∧ Below w.heap.size w w' := by
  by_cases hf : fewB sg mt L
  · by_cases hi : IsD sg mt L
    · exact wcl_ok A1 A2 c1 c2 sg mt L w hd hf hi
    · exact wcl_no A1 A2 c1 c2 sg mt L w hd hf hi
  · exact wcl_great A1 A2 c1 c2 sg mt L w hd hf
end
end Go.Proofs.Ytcjgfncbecbhjaa

