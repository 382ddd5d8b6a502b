/-
  The law SeifertGenus, walked: the call returns true and writes nothing that was there.
-/
import Derived.Test.YtaghemilihaiaaaAw32
import Derived.Test.YtaghemilihaiaaaREul
import Derived.Test.YtaghemilihaiaaaRComp
import Derived.Test.YtaghemilihaiaaaSeifG
import Derived.Test.YtaghemilihaiaaaDArg
namespace Go.Proofs.Ytaghemilihaiaaa
open Go.RowKit


section
variable {sg mt : List Int} {L : Int} (hd : IsD sg mt L)
include hd
theorem parts_zero : (graphL mt sg.length).length = 0 ↔ (strandsL sg mt).length = 0 := by
  have hI := hd.2.2.2.2.2.1
  have hn := hd.2.1
  constructor
  · intro h
    have : sg.length = 0 := by
      rcases Nat.eq_zero_or_pos sg.length with h0 | h0
      · exact h0
      · have := pn_lt hI hn h0
        omega
    have := strandsL_le sg mt
    omega
  · intro h
    have h1 : strandsL sg mt = [] := List.eq_nil_of_length_eq_zero h
    have h2 := strands_tot hd
    rw [h1] at h2
    have e := graphL_idx hI hn
    have : (graphL mt sg.length).length = idxAt mt sg.length sg.length := by rw [← e]; simp
    rw [this]
    have := idxN_le (labN mt sg.length) sg.length
    unfold idxAt
    simp [tot] at h2
    omega
theorem genus_nat (hp : ((graphL mt sg.length).length : Int) + L = 1) : ∃ d : Nat, d ≤ 100 ∧ 2 - (((strandsL sg mt).length : Int) + L) - (((circL sg mt).length : Int) + L - sg.length) = 2 * (d : Int) := by
  have h0 := hd.2.2.1
  have h64 := hd.1
  rcases Nat.eq_zero_or_pos (graphL mt sg.length).length with hg | hg
  · have hs := (parts_zero hd).1 hg
    have hl := strands_tot hd
    have e : strandsL sg mt = [] := List.eq_nil_of_length_eq_zero hs
    rw [e] at hl
    have hn : sg.length = 0 := by simp [tot] at hl; omega
    have hc : (circL sg mt).length = 0 := by
      have := cycsL_len (nxC sg mt) mt.length (outB sg) mt.length
      rw [rows_cycs_length] at this
      have := hd.2.1
      unfold circL
      omega
    exact ⟨0, by omega, by omega⟩
  · obtain ⟨d, h⟩ := genus_seif hd (by omega)
    exact ⟨d, by omega, by omega⟩
end

section
variable (A1 A2 : Option Addr) (c1 c2 : Nat) (sg mt : List Int) (L : Int) (w : World) (hd : DArg w A1 A2 sg mt L)
include hd

set_option maxHeartbeats 2000000 in
theorem sgen_great (hg : 14 < sg.length ∨ 80 < mt.length) :
    Calls Try.prog 4 #[.agg #[.slice A1 sg.length c1, .slice A2 mt.length c2, .int .i64 L]] w fun e w' => e = .returned (.bool true) ∧ Below w.heap.size w w' := by
  have HD := Lib.hid (DBox.start (c1 := c1) (c2 := c2) (L := L) (· < w.heap.size) hd.rs hd.rm (fun _ h => h))
  have HL1 := Lib.hid hd.ls
  have HL2 := Lib.hid hd.lm
  have HG := Lib.hid hg
  clear hd hg
  go_enter Try.func4, Try.ntmps4
  go_wp2_with fail
  refine (awake32 _).mono ?_
  rintro e w1 ⟨rfl, hb⟩
  have HD1 := Lib.hid (HD.out.below hb)
  have HB1 := Lib.hid (below_box (o := (.cells #[.slice A1 sg.length c1, .slice A2 mt.length c2, .int .i64 L] 24)) (by simpa using hb))
  clear hb
  have k0 := HD1.out.c0
  have k1 := HD1.out.c1
  have k2 := HD1.out.c2
  go_wp2_with fail
  refine (small_no A1 A2 c1 c2 sg mt L w1 HG.out).mono ?_
  rintro e w2 ⟨rfl, hb⟩
  have HD2 := Lib.hid (HD1.out.below hb)
  have HB2 := Lib.hid (HB1.out.trans (hb.mono HB1.out.size))
  clear hb k0 k1 k2 HD1 HB1
  have k0 := HD2.out.c0
  have k1 := HD2.out.c1
  have k2 := HD2.out.c2
  go_wp2_with fail
  go_ret
  exact ⟨rfl, HB2.out⟩

set_option maxHeartbeats 2000000 in
theorem sgen_no (hg1 : ¬ 14 < sg.length) (hg2 : ¬ 80 < mt.length) (hno : ¬ IsD sg mt L) :
    Calls Try.prog 4 #[.agg #[.slice A1 sg.length c1, .slice A2 mt.length c2, .int .i64 L]] w fun e w' => e = .returned (.bool true) ∧ Below w.heap.size w w' := by
  have HD := Lib.hid (DBox.start (c1 := c1) (c2 := c2) (L := L) (· < w.heap.size) hd.rs hd.rm (fun _ h => h))
  have HL1 := Lib.hid hd.ls
  have HL2 := Lib.hid hd.lm
  have HS1 := Lib.hid hg1
  have HS2 := Lib.hid hg2
  have HNO := Lib.hid hno
  have HR := Lib.hid (decide_eq_false hno)
  clear hd hg1 hg2 hno
  go_enter Try.func4, Try.ntmps4
  go_wp2_with fail
  refine (awake32 _).mono ?_
  rintro e w1 ⟨rfl, hb⟩
  have HD1 := Lib.hid (HD.out.below hb)
  have HB1 := Lib.hid (below_box (o := (.cells #[.slice A1 sg.length c1, .slice A2 mt.length c2, .int .i64 L] 24)) (by simpa using hb))
  clear hb
  have k0 := HD1.out.c0
  have k1 := HD1.out.c1
  have k2 := HD1.out.c2
  go_wp2_with fail
  refine (small_yes A1 A2 c1 c2 sg mt L w1 HS1.out HS2.out).mono ?_
  rintro e w2 ⟨rfl, hb⟩
  have HD2 := Lib.hid (HD1.out.below hb)
  have HB2 := Lib.hid (HB1.out.trans (hb.mono HB1.out.size))
  clear hb k0 k1 k2 HD1 HB1
  have k0 := HD2.out.c0
  have k1 := HD2.out.c1
  have k2 := HD2.out.c2
  go_wp2_with fail
  refine (seuler_no A1 A2 c1 c2 sg mt L w2 (· < w2.heap.size) HD2.out.rs HD2.out.rm (fun _ h => h) HL1.out HL2.out HNO.out).mono ?_
  rintro e w3 ⟨rfl, hb⟩
  have HD3 := Lib.hid (HD2.out.below hb)
  have HB3 := Lib.hid (HB2.out.trans (hb.mono HB2.out.size))
  clear hb k0 k1 k2 HD2 HB2
  have k0 := HD3.out.c0
  have k1 := HD3.out.c1
  have k2 := HD3.out.c2
  go_wp2_with fail
  refine (sgenus_no A1 A2 c1 c2 sg mt L w3 (· < w3.heap.size) HD3.out.rs HD3.out.rm (fun _ h => h) HL1.out HL2.out HNO.out).mono ?_
  rintro e w4 ⟨rfl, hb⟩
  have HD4 := Lib.hid (HD3.out.below hb)
  have HB4 := Lib.hid (HB3.out.trans (hb.mono HB3.out.size))
  clear hb k0 k1 k2 HD3 HB3
  have k0 := HD4.out.c0
  have k1 := HD4.out.c1
  have k2 := HD4.out.c2
  go_wp2_with fail
  refine (rvalid_is (· < w4.heap.size) false HD4.out.rs HD4.out.rm (fun _ h => h) HL1.out HL2.out HR.out).mono ?_
  rintro e w5 ⟨rfl, hb⟩
  have HD5 := Lib.hid (HD4.out.below hb)
  have HB5 := Lib.hid (HB4.out.trans (hb.mono HB4.out.size))
  clear hb k0 k1 k2 HD4 HB4
  have k0 := HD5.out.c0
  have k1 := HD5.out.c1
  have k2 := HD5.out.c2
  go_wp2_with fail
  go_ret
  exact ⟨rfl, HB5.out⟩

set_option maxHeartbeats 4000000 in
theorem sgen_empty (hg1 : ¬ 14 < sg.length) (hg2 : ¬ 80 < mt.length) (hi : IsD sg mt L) (hp : ((graphL mt sg.length).length : Int) + L = 0) :
    Calls Try.prog 4 #[.agg #[.slice A1 sg.length c1, .slice A2 mt.length c2, .int .i64 L]] w fun e w' => e = .returned (.bool true) ∧ Below w.heap.size w w' := by
  have HD := Lib.hid (DBox.start (c1 := c1) (c2 := c2) (L := L) (· < w.heap.size) hd.rs hd.rm (fun _ h => h))
  have HL1 := Lib.hid hd.ls
  have HL2 := Lib.hid hd.lm
  have HS1 := Lib.hid hg1
  have HS2 := Lib.hid hg2
  have HI := Lib.hid hi
  have hcl := circL_le sg mt L hi
  have hsl := strandsL_le sg mt
  have hsl2 : sg.length ≤ 14 := by omega
  have hlb := hi.2.2.1
  have hlb2 := hi.2.2.2.1
  obtain ⟨ex, hex⟩ : ∃ ex, ((circL sg mt).length : Int) + L - sg.length = ex := ⟨_, rfl⟩
  obtain ⟨cx, hcx⟩ : ∃ cx, ((strandsL sg mt).length : Int) + L = cx := ⟨_, rfl⟩
  have hexb : -1000 ≤ ex ∧ ex ≤ 1000 := by omega
  have hcxb : -1000 ≤ cx ∧ cx ≤ 1000 := by omega
  have HEX := Lib.hid hex
  have HCX := Lib.hid hcx
  have hz : cx = 0 := by
    have := (parts_zero hi).1 (by omega)
    omega
  have HP := Lib.hid hp
  clear hd hg1 hg2 hi hex hcx hcl hsl hp hlb hlb2
  go_enter Try.func4, Try.ntmps4
  go_wp2_with fail
  refine (awake32 _).mono ?_
  rintro e w1 ⟨rfl, hb⟩
  have HD1 := Lib.hid (HD.out.below hb)
  have HB1 := Lib.hid (below_box (o := (.cells #[.slice A1 sg.length c1, .slice A2 mt.length c2, .int .i64 L] 24)) (by simpa using hb))
  clear hb
  have k0 := HD1.out.c0
  have k1 := HD1.out.c1
  have k2 := HD1.out.c2
  go_wp2_with fail
  refine (small_yes A1 A2 c1 c2 sg mt L w1 HS1.out HS2.out).mono ?_
  rintro e w2 ⟨rfl, hb⟩
  have HD2 := Lib.hid (HD1.out.below hb)
  have HB2 := Lib.hid (HB1.out.trans (hb.mono HB1.out.size))
  clear hb k0 k1 k2 HD1 HB1
  have k0 := HD2.out.c0
  have k1 := HD2.out.c1
  have k2 := HD2.out.c2
  go_wp2_with fail
  refine (seuler_ok A1 A2 c1 c2 sg mt L w2 (· < w2.heap.size) HD2.out.rs HD2.out.rm (fun _ h => h) HI.out).mono ?_
  rintro e w3 ⟨rfl, hb⟩
  have HD3 := Lib.hid (HD2.out.below hb)
  have HB3 := Lib.hid (HB2.out.trans (hb.mono HB2.out.size))
  rw [HEX.out]
  clear hb k0 k1 k2 HD2 HB2
  have k0 := HD3.out.c0
  have k1 := HD3.out.c1
  have k2 := HD3.out.c2
  go_wp2_with fail
  refine (sgenus_empty A1 A2 c1 c2 sg mt L w3 (· < w3.heap.size) HD3.out.rs HD3.out.rm (fun _ h => h) HI.out HP.out).mono ?_
  rintro e w4 ⟨rfl, hb⟩
  have HD4 := Lib.hid (HD3.out.below hb)
  have HB4 := Lib.hid (HB3.out.trans (hb.mono HB3.out.size))
  clear hb k0 k1 k2 HD3 HB3
  have k0 := HD4.out.c0
  have k1 := HD4.out.c1
  have k2 := HD4.out.c2
  go_wp2_with fail
  refine (rvalid_is (· < w4.heap.size) true HD4.out.rs HD4.out.rm (fun _ h => h) HL1.out HL2.out (decide_eq_true HI.out)).mono ?_
  rintro e w5 ⟨rfl, hb⟩
  have HD5 := Lib.hid (HD4.out.below hb)
  have HB5 := Lib.hid (HB4.out.trans (hb.mono HB4.out.size))
  clear hb k0 k1 k2 HD4 HB4
  have k0 := HD5.out.c0
  have k1 := HD5.out.c1
  have k2 := HD5.out.c2
  go_wp2_with fail
  refine (reuler_any A1 A2 c1 c2 sg mt L w5 (· < w5.heap.size) HD5.out.rs HD5.out.rm (fun _ h => h) HI.out).mono ?_
  rintro e w6 ⟨rfl, hb⟩
  have HD6 := Lib.hid (HD5.out.below hb)
  have HB6 := Lib.hid (HB5.out.trans (hb.mono HB5.out.size))
  rw [HEX.out]
  clear hb k0 k1 k2 HD5 HB5
  have k0 := HD6.out.c0
  have k1 := HD6.out.c1
  have k2 := HD6.out.c2
  go_wp2_with fail
  refine (rcomponents_ok A1 A2 c1 c2 sg mt L w6 (· < w6.heap.size) HD6.out.rs HD6.out.rm (fun _ h => h) HI.out).mono ?_
  rintro e w7 ⟨rfl, hb⟩
  have HD7 := Lib.hid (HD6.out.below hb)
  have HB7 := Lib.hid (HB6.out.trans (hb.mono HB6.out.size))
  rw [HCX.out]
  clear hb k0 k1 k2 HD6 HB6
  have k0 := HD7.out.c0
  have k1 := HD7.out.c1
  have k2 := HD7.out.c2
  go_wp2_with fail
  go_ret
  exact ⟨rfl, HB7.out⟩

set_option maxHeartbeats 4000000 in
theorem sgen_split (hg1 : ¬ 14 < sg.length) (hg2 : ¬ 80 < mt.length) (hi : IsD sg mt L) (hp : 1 < ((graphL mt sg.length).length : Int) + L) :
    Calls Try.prog 4 #[.agg #[.slice A1 sg.length c1, .slice A2 mt.length c2, .int .i64 L]] w fun e w' => e = .returned (.bool true) ∧ Below w.heap.size w w' := by
  have HD := Lib.hid (DBox.start (c1 := c1) (c2 := c2) (L := L) (· < w.heap.size) hd.rs hd.rm (fun _ h => h))
  have HL1 := Lib.hid hd.ls
  have HL2 := Lib.hid hd.lm
  have HS1 := Lib.hid hg1
  have HS2 := Lib.hid hg2
  have HI := Lib.hid hi
  have hcl := circL_le sg mt L hi
  have hsl := strandsL_le sg mt
  have hsl2 : sg.length ≤ 14 := by omega
  have hlb := hi.2.2.1
  have hlb2 := hi.2.2.2.1
  obtain ⟨ex, hex⟩ : ∃ ex, ((circL sg mt).length : Int) + L - sg.length = ex := ⟨_, rfl⟩
  obtain ⟨cx, hcx⟩ : ∃ cx, ((strandsL sg mt).length : Int) + L = cx := ⟨_, rfl⟩
  have hexb : -1000 ≤ ex ∧ ex ≤ 1000 := by omega
  have hcxb : -1000 ≤ cx ∧ cx ≤ 1000 := by omega
  have HEX := Lib.hid hex
  have HCX := Lib.hid hcx
  have hz : (cx == 0) = false := by
    rw [beq_eq_false_iff_ne]
    intro h
    have := (parts_zero hi).2 (by omega)
    omega
  have HC := Lib.hid (show decide (((graphL mt sg.length).length : Int) + L = 1) = false from decide_eq_false (by omega))
  have HP := Lib.hid hp
  clear hd hg1 hg2 hi hex hcx hcl hsl hp hlb hlb2
  go_enter Try.func4, Try.ntmps4
  go_wp2_with fail
  refine (awake32 _).mono ?_
  rintro e w1 ⟨rfl, hb⟩
  have HD1 := Lib.hid (HD.out.below hb)
  have HB1 := Lib.hid (below_box (o := (.cells #[.slice A1 sg.length c1, .slice A2 mt.length c2, .int .i64 L] 24)) (by simpa using hb))
  clear hb
  have k0 := HD1.out.c0
  have k1 := HD1.out.c1
  have k2 := HD1.out.c2
  go_wp2_with fail
  refine (small_yes A1 A2 c1 c2 sg mt L w1 HS1.out HS2.out).mono ?_
  rintro e w2 ⟨rfl, hb⟩
  have HD2 := Lib.hid (HD1.out.below hb)
  have HB2 := Lib.hid (HB1.out.trans (hb.mono HB1.out.size))
  clear hb k0 k1 k2 HD1 HB1
  have k0 := HD2.out.c0
  have k1 := HD2.out.c1
  have k2 := HD2.out.c2
  go_wp2_with fail
  refine (seuler_ok A1 A2 c1 c2 sg mt L w2 (· < w2.heap.size) HD2.out.rs HD2.out.rm (fun _ h => h) HI.out).mono ?_
  rintro e w3 ⟨rfl, hb⟩
  have HD3 := Lib.hid (HD2.out.below hb)
  have HB3 := Lib.hid (HB2.out.trans (hb.mono HB2.out.size))
  rw [HEX.out]
  clear hb k0 k1 k2 HD2 HB2
  have k0 := HD3.out.c0
  have k1 := HD3.out.c1
  have k2 := HD3.out.c2
  go_wp2_with fail
  refine (sgenus_split A1 A2 c1 c2 sg mt L w3 (· < w3.heap.size) HD3.out.rs HD3.out.rm (fun _ h => h) HI.out HP.out).mono ?_
  rintro e w4 ⟨rfl, hb⟩
  have HD4 := Lib.hid (HD3.out.below hb)
  have HB4 := Lib.hid (HB3.out.trans (hb.mono HB3.out.size))
  clear hb k0 k1 k2 HD3 HB3
  have k0 := HD4.out.c0
  have k1 := HD4.out.c1
  have k2 := HD4.out.c2
  go_wp2_with fail
  refine (rvalid_is (· < w4.heap.size) true HD4.out.rs HD4.out.rm (fun _ h => h) HL1.out HL2.out (decide_eq_true HI.out)).mono ?_
  rintro e w5 ⟨rfl, hb⟩
  have HD5 := Lib.hid (HD4.out.below hb)
  have HB5 := Lib.hid (HB4.out.trans (hb.mono HB4.out.size))
  clear hb k0 k1 k2 HD4 HB4
  have k0 := HD5.out.c0
  have k1 := HD5.out.c1
  have k2 := HD5.out.c2
  go_wp2_with fail
  refine (reuler_any A1 A2 c1 c2 sg mt L w5 (· < w5.heap.size) HD5.out.rs HD5.out.rm (fun _ h => h) HI.out).mono ?_
  rintro e w6 ⟨rfl, hb⟩
  have HD6 := Lib.hid (HD5.out.below hb)
  have HB6 := Lib.hid (HB5.out.trans (hb.mono HB5.out.size))
  rw [HEX.out]
  clear hb k0 k1 k2 HD5 HB5
  have k0 := HD6.out.c0
  have k1 := HD6.out.c1
  have k2 := HD6.out.c2
  go_wp2_with fail
  refine (rcomponents_ok A1 A2 c1 c2 sg mt L w6 (· < w6.heap.size) HD6.out.rs HD6.out.rm (fun _ h => h) HI.out).mono ?_
  rintro e w7 ⟨rfl, hb⟩
  have HD7 := Lib.hid (HD6.out.below hb)
  have HB7 := Lib.hid (HB6.out.trans (hb.mono HB6.out.size))
  rw [HCX.out]
  clear hb k0 k1 k2 HD6 HB6
  have k0 := HD7.out.c0
  have k1 := HD7.out.c1
  have k2 := HD7.out.c2
  go_wp2_with fail
  refine (rconn_any A1 A2 c1 c2 sg mt L w7 (· < w7.heap.size) HD7.out.rs HD7.out.rm (fun _ h => h) HI.out false HC.out).mono ?_
  rintro e w8 ⟨rfl, hb⟩
  have HD8 := Lib.hid (HD7.out.below hb)
  have HB8 := Lib.hid (HB7.out.trans (hb.mono HB7.out.size))
  clear hb k0 k1 k2 HD7 HB7
  have k0 := HD8.out.c0
  have k1 := HD8.out.c1
  have k2 := HD8.out.c2
  go_wp2_with fail
  go_ret
  exact ⟨rfl, HB8.out⟩

set_option maxHeartbeats 4000000 in
theorem sgen_ok (hg1 : ¬ 14 < sg.length) (hg2 : ¬ 80 < mt.length) (hi : IsD sg mt L) (hp : ((graphL mt sg.length).length : Int) + L = 1) :
    Calls Try.prog 4 #[.agg #[.slice A1 sg.length c1, .slice A2 mt.length c2, .int .i64 L]] w fun e w' => e = .returned (.bool true) ∧ Below w.heap.size w w' := by
  have HD := Lib.hid (DBox.start (c1 := c1) (c2 := c2) (L := L) (· < w.heap.size) hd.rs hd.rm (fun _ h => h))
  have HL1 := Lib.hid hd.ls
  have HL2 := Lib.hid hd.lm
  have HS1 := Lib.hid hg1
  have HS2 := Lib.hid hg2
  have HI := Lib.hid hi
  have hcl := circL_le sg mt L hi
  have hsl := strandsL_le sg mt
  have hsl2 : sg.length ≤ 14 := by omega
  have hlb := hi.2.2.1
  have hlb2 := hi.2.2.2.1
  obtain ⟨ex, hex⟩ : ∃ ex, ((circL sg mt).length : Int) + L - sg.length = ex := ⟨_, rfl⟩
  obtain ⟨cx, hcx⟩ : ∃ cx, ((strandsL sg mt).length : Int) + L = cx := ⟨_, rfl⟩
  have hexb : -1000 ≤ ex ∧ ex ≤ 1000 := by omega
  have hcxb : -1000 ≤ cx ∧ cx ≤ 1000 := by omega
  have HEX := Lib.hid hex
  have HCX := Lib.hid hcx
  have hz : (cx == 0) = false := by
    rw [beq_eq_false_iff_ne]
    intro h
    have := (parts_zero hi).2 (by omega)
    omega
  have HC := Lib.hid (show decide (((graphL mt sg.length).length : Int) + L = 1) = true from decide_eq_true (by omega))
  obtain ⟨d, hd1, hd2⟩ := genus_nat hi hp
  have hd3 : (2 - (((strandsL sg mt).length : Int) + L) - (((circL sg mt).length : Int) + L - sg.length)).tdiv 2 = (d : Int) := by
    rw [hd2, Int.mul_comm]; exact Int.mul_tdiv_cancel _ (by decide)
  rw [hcx, hex] at hd2
  have HGD := Lib.hid hd3
  have hf : (2 * (d : Int) == 2 - cx - ex) = true := by rw [beq_iff_eq, hd2]
  clear hd3 hd2
  have HP := Lib.hid hp
  clear hd hg1 hg2 hi hex hcx hcl hsl hp hlb hlb2
  go_enter Try.func4, Try.ntmps4
  go_wp2_with fail
  refine (awake32 _).mono ?_
  rintro e w1 ⟨rfl, hb⟩
  have HD1 := Lib.hid (HD.out.below hb)
  have HB1 := Lib.hid (below_box (o := (.cells #[.slice A1 sg.length c1, .slice A2 mt.length c2, .int .i64 L] 24)) (by simpa using hb))
  clear hb
  have k0 := HD1.out.c0
  have k1 := HD1.out.c1
  have k2 := HD1.out.c2
  go_wp2_with fail
  refine (small_yes A1 A2 c1 c2 sg mt L w1 HS1.out HS2.out).mono ?_
  rintro e w2 ⟨rfl, hb⟩
  have HD2 := Lib.hid (HD1.out.below hb)
  have HB2 := Lib.hid (HB1.out.trans (hb.mono HB1.out.size))
  clear hb k0 k1 k2 HD1 HB1
  have k0 := HD2.out.c0
  have k1 := HD2.out.c1
  have k2 := HD2.out.c2
  go_wp2_with fail
  refine (seuler_ok A1 A2 c1 c2 sg mt L w2 (· < w2.heap.size) HD2.out.rs HD2.out.rm (fun _ h => h) HI.out).mono ?_
  rintro e w3 ⟨rfl, hb⟩
  have HD3 := Lib.hid (HD2.out.below hb)
  have HB3 := Lib.hid (HB2.out.trans (hb.mono HB2.out.size))
  rw [HEX.out]
  clear hb k0 k1 k2 HD2 HB2
  have k0 := HD3.out.c0
  have k1 := HD3.out.c1
  have k2 := HD3.out.c2
  go_wp2_with fail
  refine (sgenus_ok A1 A2 c1 c2 sg mt L w3 (· < w3.heap.size) HD3.out.rs HD3.out.rm (fun _ h => h) HI.out HP.out).mono ?_
  rintro e w4 ⟨rfl, hb⟩
  have HD4 := Lib.hid (HD3.out.below hb)
  have HB4 := Lib.hid (HB3.out.trans (hb.mono HB3.out.size))
  rw [HGD.out]
  clear hb k0 k1 k2 HD3 HB3
  have k0 := HD4.out.c0
  have k1 := HD4.out.c1
  have k2 := HD4.out.c2
  go_wp2_with fail
  refine (rvalid_is (· < w4.heap.size) true HD4.out.rs HD4.out.rm (fun _ h => h) HL1.out HL2.out (decide_eq_true HI.out)).mono ?_
  rintro e w5 ⟨rfl, hb⟩
  have HD5 := Lib.hid (HD4.out.below hb)
  have HB5 := Lib.hid (HB4.out.trans (hb.mono HB4.out.size))
  clear hb k0 k1 k2 HD4 HB4
  have k0 := HD5.out.c0
  have k1 := HD5.out.c1
  have k2 := HD5.out.c2
  go_wp2_with fail
  refine (reuler_any A1 A2 c1 c2 sg mt L w5 (· < w5.heap.size) HD5.out.rs HD5.out.rm (fun _ h => h) HI.out).mono ?_
  rintro e w6 ⟨rfl, hb⟩
  have HD6 := Lib.hid (HD5.out.below hb)
  have HB6 := Lib.hid (HB5.out.trans (hb.mono HB5.out.size))
  rw [HEX.out]
  clear hb k0 k1 k2 HD5 HB5
  have k0 := HD6.out.c0
  have k1 := HD6.out.c1
  have k2 := HD6.out.c2
  go_wp2_with fail
  refine (rcomponents_ok A1 A2 c1 c2 sg mt L w6 (· < w6.heap.size) HD6.out.rs HD6.out.rm (fun _ h => h) HI.out).mono ?_
  rintro e w7 ⟨rfl, hb⟩
  have HD7 := Lib.hid (HD6.out.below hb)
  have HB7 := Lib.hid (HB6.out.trans (hb.mono HB6.out.size))
  rw [HCX.out]
  clear hb k0 k1 k2 HD6 HB6
  have k0 := HD7.out.c0
  have k1 := HD7.out.c1
  have k2 := HD7.out.c2
  go_wp2_with fail
  refine (rconn_any A1 A2 c1 c2 sg mt L w7 (· < w7.heap.size) HD7.out.rs HD7.out.rm (fun _ h => h) HI.out true HC.out).mono ?_
  rintro e w8 ⟨rfl, hb⟩
  have HD8 := Lib.hid (HD7.out.below hb)
  have HB8 := Lib.hid (HB7.out.trans (hb.mono HB7.out.size))
  clear hb k0 k1 k2 HD7 HB7
  have k0 := HD8.out.c0
  have k1 := HD8.out.c1
  have k2 := HD8.out.c2
  go_wp2_with fail
  go_ret
  exact ⟨rfl, HB8.out⟩

theorem seifertGenus_walk :
    Calls Try.prog 4 #[.agg #[.slice A1 sg.length c1, .slice A2 mt.length c2, .int .i64 L]] w fun e w' => e = .returned (.bool true) ∧ Below w.heap.size w w' := by
  by_cases hg : 14 < sg.length ∨ 80 < mt.length
  · exact sgen_great A1 A2 c1 c2 sg mt L w hd hg
  · by_cases hi : IsD sg mt L
    · have := hi.2.2.1
      by_cases h0 : ((graphL mt sg.length).length : Int) + L = 0
      · exact sgen_empty A1 A2 c1 c2 sg mt L w hd (by omega) (by omega) hi h0
      · by_cases h1 : ((graphL mt sg.length).length : Int) + L = 1
        · exact sgen_ok A1 A2 c1 c2 sg mt L w hd (by omega) (by omega) hi h1
        · exact sgen_split A1 A2 c1 c2 sg mt L w hd (by omega) (by omega) hi (by omega)
    · exact sgen_no A1 A2 c1 c2 sg mt L w hd (by omega) (by omega) hi
end
end Go.Proofs.Ytaghemilihaiaaa

