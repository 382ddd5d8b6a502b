/-
  The law WirtingerLongitude, walked: the call returns true and writes nothing that was there.
-/
import Derived.Test.YtcjgfncbecbhjaaAw22
import Derived.Test.YtcjgfncbecbhjaaRLong
import Derived.Test.YtcjgfncbecbhjaaRComp
import Derived.Test.YtcjgfncbecbhjaaRValid
import Derived.Test.YtcjgfncbecbhjaaDArg
namespace Go.Proofs.Ytcjgfncbecbhjaa
open Go.RowKit

section
variable (A1 A2 : Option Addr) (c1 c2 : Nat) (sg mt : List Int) (L : Int) (w : World) (hd : DArg w A1 A2 sg mt L)
include hd

set_option maxHeartbeats 4000000 in
theorem wgl_great (ci : Int) (hf : ¬ fewB sg mt L) :
    Calls Try.prog 8 #[.agg #[.slice A1 sg.length c1, .slice A2 mt.length c2, .int .i64 L], .int .i64 ci] w fun e w' => e = .returned (.bool true) ∧ Below w.heap.size w w' := by
  have HD := Lib.hid (DBox.start (c1 := c1) (c2 := c2) (L := L) (· < w.heap.size) hd.rs hd.rm (fun _ h => h))
  have HL1 := Lib.hid hd.ls
  have HL2 := Lib.hid hd.lm
  have HF := Lib.hid hf
  clear hd hf
  go_enter Try.func8, Try.ntmps8
  go_wp2_with fail
  refine (awake22 _).mono ?_
  rintro e w1 ⟨rfl, hb⟩
  have HD1 := Lib.hid (HD.out.below hb)
  have HB1 := Lib.hid (below_box (o := (.cells #[.slice A1 sg.length c1, .slice A2 mt.length c2, .int .i64 L] 24)) (by simpa using hb))
  clear hb
  have k0 := HD1.out.c0
  have k1 := HD1.out.c1
  have k2 := HD1.out.c2
  go_wp2_with fail
  refine (few_no A1 A2 c1 c2 sg mt L w1 HF.out).mono ?_
  rintro e w2 ⟨rfl, hb⟩
  have HD2 := Lib.hid (HD1.out.below hb)
  have HB2 := Lib.hid (HB1.out.trans (hb.mono HB1.out.size))
  clear hb k0 k1 k2 HD1 HB1
  have k0 := HD2.out.c0
  have k1 := HD2.out.c1
  have k2 := HD2.out.c2
  go_wp2_with fail
  refine (awake22 _).mono ?_
  rintro e w3 ⟨rfl, hb⟩
  have HD3 := Lib.hid (HD2.out.below hb)
  have HB3 := Lib.hid (HB2.out.trans (hb.mono HB2.out.size))
  clear hb k0 k1 k2 HD2 HB2
  have k0 := HD3.out.c0
  have k1 := HD3.out.c1
  have k2 := HD3.out.c2
  go_wp2_with fail
  go_ret
  exact ⟨rfl, HB3.out⟩

set_option maxHeartbeats 4000000 in
theorem wgl_no (ci : Int) (hf : fewB sg mt L) (hno : ¬ IsD sg mt L) :
    Calls Try.prog 8 #[.agg #[.slice A1 sg.length c1, .slice A2 mt.length c2, .int .i64 L], .int .i64 ci] w fun e w' => e = .returned (.bool true) ∧ Below w.heap.size w w' := by
  have HD := Lib.hid (DBox.start (c1 := c1) (c2 := c2) (L := L) (· < w.heap.size) hd.rs hd.rm (fun _ h => h))
  have HL1 := Lib.hid hd.ls
  have HL2 := Lib.hid hd.lm
  have HF := Lib.hid hf
  have HNO := Lib.hid hno
  have HR := Lib.hid (decide_eq_false hno)
  clear hd hf hno
  go_enter Try.func8, Try.ntmps8
  go_wp2_with fail
  refine (awake22 _).mono ?_
  rintro e w1 ⟨rfl, hb⟩
  have HD1 := Lib.hid (HD.out.below hb)
  have HB1 := Lib.hid (below_box (o := (.cells #[.slice A1 sg.length c1, .slice A2 mt.length c2, .int .i64 L] 24)) (by simpa using hb))
  clear hb
  have k0 := HD1.out.c0
  have k1 := HD1.out.c1
  have k2 := HD1.out.c2
  go_wp2_with fail
  refine (few_yes A1 A2 c1 c2 sg mt L w1 HF.out).mono ?_
  rintro e w2 ⟨rfl, hb⟩
  have HD2 := Lib.hid (HD1.out.below hb)
  have HB2 := Lib.hid (HB1.out.trans (hb.mono HB1.out.size))
  clear hb k0 k1 k2 HD1 HB1
  have k0 := HD2.out.c0
  have k1 := HD2.out.c1
  have k2 := HD2.out.c2
  go_wp2_with fail
  refine (long_no A1 A2 c1 c2 sg mt L w2 (· < w2.heap.size) HD2.out.rs HD2.out.rm (fun _ h => h) ci HL1.out HL2.out HNO.out).mono ?_
  rintro e w3 ⟨rfl, hb⟩
  have HD3 := Lib.hid (HD2.out.below hb)
  have HB3 := Lib.hid (HB2.out.trans (hb.mono HB2.out.size))
  clear hb k0 k1 k2 HD2 HB2
  have k0 := HD3.out.c0
  have k1 := HD3.out.c1
  have k2 := HD3.out.c2
  go_wp2_with fail
  refine (rvalid_is (· < w3.heap.size) false HD3.out.rs HD3.out.rm (fun _ h => h) HL1.out HL2.out HR.out).mono ?_
  rintro e w4 ⟨rfl, hb⟩
  have HD4 := Lib.hid (HD3.out.below hb)
  have HB4 := Lib.hid (HB3.out.trans (hb.mono HB3.out.size))
  clear hb k0 k1 k2 HD3 HB3
  have k0 := HD4.out.c0
  have k1 := HD4.out.c1
  have k2 := HD4.out.c2
  go_wp2_with fail
  go_ret
  exact ⟨rfl, HB4.out⟩

set_option maxHeartbeats 4000000 in
theorem wgl_neg (ci : Int) (hf : fewB sg mt L) (hi : IsD sg mt L) (hc : ci < 0) :
    Calls Try.prog 8 #[.agg #[.slice A1 sg.length c1, .slice A2 mt.length c2, .int .i64 L], .int .i64 ci] w fun e w' => e = .returned (.bool true) ∧ Below w.heap.size w w' := by
  have HD := Lib.hid (DBox.start (c1 := c1) (c2 := c2) (L := L) (· < w.heap.size) hd.rs hd.rm (fun _ h => h))
  have HL1 := Lib.hid hd.ls
  have HL2 := Lib.hid hd.lm
  have HF := Lib.hid hf
  have HI := Lib.hid hi
  have hL1 := hi.2.2.1
  have hL2 := hi.2.2.2.1
  have hnl : (strandsL sg mt).length ≤ 256 := by
    have h1 := strandsL_most sg mt
    have h2 := hi.1
    have h3 := hi.2.1
    omega
  clear hd hf hi hL1 hL2 hnl
  go_enter Try.func8, Try.ntmps8
  go_wp2_with fail
  refine (awake22 _).mono ?_
  rintro e w1 ⟨rfl, hb⟩
  have HD1 := Lib.hid (HD.out.below hb)
  have HB1 := Lib.hid (below_box (o := (.cells #[.slice A1 sg.length c1, .slice A2 mt.length c2, .int .i64 L] 24)) (by simpa using hb))
  clear hb
  have k0 := HD1.out.c0
  have k1 := HD1.out.c1
  have k2 := HD1.out.c2
  go_wp2_with fail
  refine (few_yes A1 A2 c1 c2 sg mt L w1 HF.out).mono ?_
  rintro e w2 ⟨rfl, hb⟩
  have HD2 := Lib.hid (HD1.out.below hb)
  have HB2 := Lib.hid (HB1.out.trans (hb.mono HB1.out.size))
  clear hb k0 k1 k2 HD1 HB1
  have k0 := HD2.out.c0
  have k1 := HD2.out.c1
  have k2 := HD2.out.c2
  go_wp2_with fail
  refine (long_out A1 A2 c1 c2 sg mt L w2 (· < w2.heap.size) HD2.out.rs HD2.out.rm (fun _ h => h) ci HI.out 2 (.inl ⟨hc, rfl⟩)).mono ?_
  rintro e w3 ⟨rfl, hb⟩
  have HD3 := Lib.hid (HD2.out.below hb)
  have HB3 := Lib.hid (HB2.out.trans (hb.mono HB2.out.size))
  clear hb k0 k1 k2 HD2 HB2
  have k0 := HD3.out.c0
  have k1 := HD3.out.c1
  have k2 := HD3.out.c2
  go_wp2_with fail
  refine (rvalid_is (· < w3.heap.size) true HD3.out.rs HD3.out.rm (fun _ h => h) HL1.out HL2.out (decide_eq_true HI.out)).mono ?_
  rintro e w4 ⟨rfl, hb⟩
  have HD4 := Lib.hid (HD3.out.below hb)
  have HB4 := Lib.hid (HB3.out.trans (hb.mono HB3.out.size))
  clear hb k0 k1 k2 HD3 HB3
  have k0 := HD4.out.c0
  have k1 := HD4.out.c1
  have k2 := HD4.out.c2
  go_wp2_with fail
  go_ret
  exact ⟨rfl, HB4.out⟩

set_option maxHeartbeats 4000000 in
theorem wgl_far (ci : Int) (hf : fewB sg mt L) (hi : IsD sg mt L) (h0 : 0 ≤ ci) (hc : ((strandsL sg mt).length : Int) + L ≤ ci) :
    Calls Try.prog 8 #[.agg #[.slice A1 sg.length c1, .slice A2 mt.length c2, .int .i64 L], .int .i64 ci] w fun e w' => e = .returned (.bool true) ∧ Below w.heap.size w w' := by
  have HD := Lib.hid (DBox.start (c1 := c1) (c2 := c2) (L := L) (· < w.heap.size) hd.rs hd.rm (fun _ h => h))
  have HL1 := Lib.hid hd.ls
  have HL2 := Lib.hid hd.lm
  have HF := Lib.hid hf
  have HI := Lib.hid hi
  have hL1 := hi.2.2.1
  have hL2 := hi.2.2.2.1
  have hnl : (strandsL sg mt).length ≤ 256 := by
    have h1 := strandsL_most sg mt
    have h2 := hi.1
    have h3 := hi.2.1
    omega
  have HSN := Lib.hid (Eq.refl (strandsL sg mt).length)
  obtain ⟨ns, hns⟩ : ∃ n, (strandsL sg mt).length = n := ⟨_, rfl⟩
  have HNS := Lib.hid hns
  rw [hns] at hc hnl
  clear hns HSN
  have h1 : ¬ ci < 0 := by omega
  clear hd hf hi
  go_enter Try.func8, Try.ntmps8
  go_wp2_with fail
  refine (awake22 _).mono ?_
  rintro e w1 ⟨rfl, hb⟩
  have HD1 := Lib.hid (HD.out.below hb)
  have HB1 := Lib.hid (below_box (o := (.cells #[.slice A1 sg.length c1, .slice A2 mt.length c2, .int .i64 L] 24)) (by simpa using hb))
  clear hb
  have k0 := HD1.out.c0
  have k1 := HD1.out.c1
  have k2 := HD1.out.c2
  go_wp2_with fail
  refine (few_yes A1 A2 c1 c2 sg mt L w1 HF.out).mono ?_
  rintro e w2 ⟨rfl, hb⟩
  have HD2 := Lib.hid (HD1.out.below hb)
  have HB2 := Lib.hid (HB1.out.trans (hb.mono HB1.out.size))
  clear hb k0 k1 k2 HD1 HB1
  have k0 := HD2.out.c0
  have k1 := HD2.out.c1
  have k2 := HD2.out.c2
  go_wp2_with fail
  refine (long_out A1 A2 c1 c2 sg mt L w2 (· < w2.heap.size) HD2.out.rs HD2.out.rm (fun _ h => h) ci HI.out 2 (.inr (.inl ⟨h0, by rw [HNS.out]; exact hc, rfl⟩))).mono ?_
  rintro e w3 ⟨rfl, hb⟩
  have HD3 := Lib.hid (HD2.out.below hb)
  have HB3 := Lib.hid (HB2.out.trans (hb.mono HB2.out.size))
  clear hb k0 k1 k2 HD2 HB2
  have k0 := HD3.out.c0
  have k1 := HD3.out.c1
  have k2 := HD3.out.c2
  go_wp2_with fail
  refine (rvalid_is (· < w3.heap.size) true HD3.out.rs HD3.out.rm (fun _ h => h) HL1.out HL2.out (decide_eq_true HI.out)).mono ?_
  rintro e w4 ⟨rfl, hb⟩
  have HD4 := Lib.hid (HD3.out.below hb)
  have HB4 := Lib.hid (HB3.out.trans (hb.mono HB3.out.size))
  clear hb k0 k1 k2 HD3 HB3
  have k0 := HD4.out.c0
  have k1 := HD4.out.c1
  have k2 := HD4.out.c2
  go_wp2_with fail
  refine (rcomponents_ok A1 A2 c1 c2 sg mt L w4 (· < w4.heap.size) HD4.out.rs HD4.out.rm (fun _ h => h) HI.out).mono ?_
  rintro e w5 ⟨rfl, hb⟩
  have HD5 := Lib.hid (HD4.out.below hb)
  have HB5 := Lib.hid (HB4.out.trans (hb.mono HB4.out.size))
  rw [HNS.out]
  clear hb k0 k1 k2 HD4 HB4
  have k0 := HD5.out.c0
  have k1 := HD5.out.c1
  have k2 := HD5.out.c2
  go_wp2_with fail
  go_ret
  exact ⟨rfl, HB5.out⟩

set_option maxHeartbeats 4000000 in
theorem wgl_loop (ci : Int) (hf : fewB sg mt L) (hi : IsD sg mt L) (h0 : ((strandsL sg mt).length : Int) ≤ ci) (hc : ci < ((strandsL sg mt).length : Int) + L) :
    Calls Try.prog 8 #[.agg #[.slice A1 sg.length c1, .slice A2 mt.length c2, .int .i64 L], .int .i64 ci] w fun e w' => e = .returned (.bool true) ∧ Below w.heap.size w w' := by
  have HD := Lib.hid (DBox.start (c1 := c1) (c2 := c2) (L := L) (· < w.heap.size) hd.rs hd.rm (fun _ h => h))
  have HL1 := Lib.hid hd.ls
  have HL2 := Lib.hid hd.lm
  have HF := Lib.hid hf
  have HI := Lib.hid hi
  have hL1 := hi.2.2.1
  have hL2 := hi.2.2.2.1
  have hnl : (strandsL sg mt).length ≤ 256 := by
    have h1 := strandsL_most sg mt
    have h2 := hi.1
    have h3 := hi.2.1
    omega
  have HSN := Lib.hid (Eq.refl (strandsL sg mt).length)
  obtain ⟨ns, hns⟩ : ∃ n, (strandsL sg mt).length = n := ⟨_, rfl⟩
  have HNS := Lib.hid hns
  rw [hns] at h0 hc hnl
  have h1 : ¬ ci < 0 := by omega
  have h2 : ¬ (ns : Int) + L ≤ ci := by omega
  have HE : Hid (∀ W : World, RI W (· < W.heap.size) none []) := fun W => RI.nil
  clear hd hf hi hns HSN
  go_enter Try.func8, Try.ntmps8
  go_wp2_with fail
  refine (awake22 _).mono ?_
  rintro e w1 ⟨rfl, hb⟩
  have HD1 := Lib.hid (HD.out.below hb)
  have HB1 := Lib.hid (below_box (o := (.cells #[.slice A1 sg.length c1, .slice A2 mt.length c2, .int .i64 L] 24)) (by simpa using hb))
  clear hb
  have k0 := HD1.out.c0
  have k1 := HD1.out.c1
  have k2 := HD1.out.c2
  go_wp2_with fail
  refine (few_yes A1 A2 c1 c2 sg mt L w1 HF.out).mono ?_
  rintro e w2 ⟨rfl, hb⟩
  have HD2 := Lib.hid (HD1.out.below hb)
  have HB2 := Lib.hid (HB1.out.trans (hb.mono HB1.out.size))
  clear hb k0 k1 k2 HD1 HB1
  have k0 := HD2.out.c0
  have k1 := HD2.out.c1
  have k2 := HD2.out.c2
  go_wp2_with fail
  refine (long_out A1 A2 c1 c2 sg mt L w2 (· < w2.heap.size) HD2.out.rs HD2.out.rm (fun _ h => h) ci HI.out 0 (.inr (.inr ⟨by rw [HNS.out]; exact h0, by rw [HNS.out]; exact hc, rfl⟩))).mono ?_
  rintro e w3 ⟨rfl, hb⟩
  have HD3 := Lib.hid (HD2.out.below hb)
  have HB3 := Lib.hid (HB2.out.trans (hb.mono HB2.out.size))
  clear hb k0 k1 k2 HD2 HB2
  have k0 := HD3.out.c0
  have k1 := HD3.out.c1
  have k2 := HD3.out.c2
  go_wp2_with fail
  refine (rvalid_is (· < w3.heap.size) true HD3.out.rs HD3.out.rm (fun _ h => h) HL1.out HL2.out (decide_eq_true HI.out)).mono ?_
  rintro e w4 ⟨rfl, hb⟩
  have HD4 := Lib.hid (HD3.out.below hb)
  have HB4 := Lib.hid (HB3.out.trans (hb.mono HB3.out.size))
  clear hb k0 k1 k2 HD3 HB3
  have k0 := HD4.out.c0
  have k1 := HD4.out.c1
  have k2 := HD4.out.c2
  go_wp2_with fail
  refine (rcomponents_ok A1 A2 c1 c2 sg mt L w4 (· < w4.heap.size) HD4.out.rs HD4.out.rm (fun _ h => h) HI.out).mono ?_
  rintro e w5 ⟨rfl, hb⟩
  have HD5 := Lib.hid (HD4.out.below hb)
  have HB5 := Lib.hid (HB4.out.trans (hb.mono HB4.out.size))
  rw [HNS.out]
  clear hb k0 k1 k2 HD4 HB4
  have k0 := HD5.out.c0
  have k1 := HD5.out.c1
  have k2 := HD5.out.c2
  go_wp2_with fail
  refine (rlong_out A1 A2 c1 c2 sg mt L w5 (· < w5.heap.size) HD5.out.rs HD5.out.rm (fun _ h => h) ci HI.out (by rw [HNS.out]; exact h0)).mono ?_
  rintro e w6 ⟨rfl, hb⟩
  have HD6 := Lib.hid (HD5.out.below hb)
  have HB6 := Lib.hid (HB5.out.trans (hb.mono HB5.out.size))
  clear hb k0 k1 k2 HD5 HB5
  have k0 := HD6.out.c0
  have k1 := HD6.out.c1
  have k2 := HD6.out.c2
  go_wp2_with fail
  refine (wequal_is (c := 0) (d := 0) (· < w6.heap.size) (· < w6.heap.size) true (HE.out w6) (HE.out w6) rfl rfl (Nat.zero_le _) (Nat.zero_le _) (decide_eq_true rfl)).mono ?_
  rintro e w7 ⟨rfl, n, rfl⟩
  have HB7 := Lib.hid (below_drewN HB6.out n)
  go_wp2_with fail
  go_ret
  exact ⟨rfl, HB7.out⟩

set_option maxHeartbeats 4000000 in
theorem wgl_in (hf : fewB sg mt L) (hi : IsD sg mt L) (i : Nat) (his : i < (strandsL sg mt).length) :
    Calls Try.prog 8 #[.agg #[.slice A1 sg.length c1, .slice A2 mt.length c2, .int .i64 L], .int .i64 (i : Int)] w fun e w' => e = .returned (.bool true) ∧ Below w.heap.size w w' := by
  have HD := Lib.hid (DBox.start (c1 := c1) (c2 := c2) (L := L) (· < w.heap.size) hd.rs hd.rm (fun _ h => h))
  have HL1 := Lib.hid hd.ls
  have HL2 := Lib.hid hd.lm
  have HF := Lib.hid hf
  have HI := Lib.hid hi
  have hL1 := hi.2.2.1
  have hL2 := hi.2.2.2.1
  have hnl : (strandsL sg mt).length ≤ 256 := by
    have h1 := strandsL_most sg mt
    have h2 := hi.1
    have h3 := hi.2.1
    omega
  have HIS := Lib.hid his
  obtain ⟨ns, hns⟩ : ∃ n, (strandsL sg mt).length = n := ⟨_, rfl⟩
  have HNS := Lib.hid hns
  rw [hns] at his hnl
  have h2 : ¬ (ns : Int) + L ≤ (i : Int) := by omega
  clear hd hf hi hns
  go_enter Try.func8, Try.ntmps8
  go_wp2_with fail
  refine (awake22 _).mono ?_
  rintro e w1 ⟨rfl, hb⟩
  have HD1 := Lib.hid (HD.out.below hb)
  have HB1 := Lib.hid (below_box (o := (.cells #[.slice A1 sg.length c1, .slice A2 mt.length c2, .int .i64 L] 24)) (by simpa using hb))
  clear hb
  have k0 := HD1.out.c0
  have k1 := HD1.out.c1
  have k2 := HD1.out.c2
  go_wp2_with fail
  refine (few_yes A1 A2 c1 c2 sg mt L w1 HF.out).mono ?_
  rintro e w2 ⟨rfl, hb⟩
  have HD2 := Lib.hid (HD1.out.below hb)
  have HB2 := Lib.hid (HB1.out.trans (hb.mono HB1.out.size))
  clear hb k0 k1 k2 HD1 HB1
  have k0 := HD2.out.c0
  have k1 := HD2.out.c1
  have k2 := HD2.out.c2
  go_wp2_with fail
  refine (long_ok A1 A2 c1 c2 sg mt L w2 (· < w2.heap.size) HD2.out.rs HD2.out.rm (fun _ h => h) i HI.out HIS.out).mono ?_
  rintro e w3 ⟨va, rfl, hoa, hb⟩
  obtain ⟨Aa, ca, hva, -, -, hra⟩ := hoa.reads
  have HLL := Lib.hid hoa.len
  have HD3 := Lib.hid (HD2.out.below hb)
  have HB3 := Lib.hid (HB2.out.trans (hb.mono HB2.out.size))
  have HA3 := Lib.hid (hra.imp (T := (· < w3.heap.size)) fun b hb => hb.2)
  obtain ⟨q, hq⟩ : ∃ q, (lonL sg mt i).length = q := ⟨_, rfl⟩
  have HQ := Lib.hid hq
  rw [hq] at hva
  subst hva
  clear hb hoa hra hq k0 k1 k2 HD2 HB2
  have k0 := HD3.out.c0
  have k1 := HD3.out.c1
  have k2 := HD3.out.c2
  go_wp2_with fail
  refine (rvalid_is (· < w3.heap.size) true HD3.out.rs HD3.out.rm (fun _ h => h) HL1.out HL2.out (decide_eq_true HI.out)).mono ?_
  rintro e w4 ⟨rfl, hb⟩
  have HD4 := Lib.hid (HD3.out.below hb)
  have HB4 := Lib.hid (HB3.out.trans (hb.mono HB3.out.size))
  have HA4 := Lib.hid ((HA3.out.below hb).imp (T := (· < w4.heap.size)) fun b h => Nat.lt_of_lt_of_le h hb.size)
  clear hb k0 k1 k2 HD3 HB3
  have k0 := HD4.out.c0
  have k1 := HD4.out.c1
  have k2 := HD4.out.c2
  go_wp2_with fail
  refine (rcomponents_ok A1 A2 c1 c2 sg mt L w4 (· < w4.heap.size) HD4.out.rs HD4.out.rm (fun _ h => h) HI.out).mono ?_
  rintro e w5 ⟨rfl, hb⟩
  have HD5 := Lib.hid (HD4.out.below hb)
  have HB5 := Lib.hid (HB4.out.trans (hb.mono HB4.out.size))
  rw [HNS.out]
  have HA5 := Lib.hid ((HA4.out.below hb).imp (T := (· < w5.heap.size)) fun b h => Nat.lt_of_lt_of_le h hb.size)
  clear hb k0 k1 k2 HD4 HB4
  have k0 := HD5.out.c0
  have k1 := HD5.out.c1
  have k2 := HD5.out.c2
  go_wp2_with fail
  refine (rlong_ok A1 A2 c1 c2 sg mt L w5 (· < w5.heap.size) HD5.out.rs HD5.out.rm (fun _ h => h) i HI.out HIS.out).mono ?_
  rintro e w6 ⟨vb, rfl, hob, hb⟩
  obtain ⟨Ab, cb, hvb, -, -, hrb⟩ := hob.reads
  have HB6 := Lib.hid (HB5.out.trans (hb.mono HB5.out.size))
  have HA6 := Lib.hid (HA5.out.below hb)
  have HC6 := Lib.hid hrb
  rw [HQ.out] at hvb
  subst hvb
  have HLQ : Hid (q ≤ maxLen) := by rw [← HQ.out]; exact HLL.out
  clear hb hob hrb k0 k1 k2 HD5 HB5
  go_wp2_with fail
  refine (wequal_is _ _ true HA6.out HC6.out HQ.out HQ.out HLQ.out HLQ.out (decide_eq_true rfl)).mono ?_
  rintro e w7 ⟨rfl, n, rfl⟩
  have HB7 := Lib.hid (below_drewN HB6.out n)
  go_wp2_with fail
  go_ret
  exact ⟨rfl, HB7.out⟩

end
theorem wirtingerLongitude_walk (A1 A2 : Option Addr) (c1 c2 : Nat) (sg mt : List Int) (L : Int) (ci : Int) (w : World) (hd : DArg w A1 A2 sg mt L) (_wf : (Lit.int .i64 ci).wf = true) :
    Calls Try.prog 8 #[.agg #[.slice A1 sg.length c1, .slice A2 mt.length c2, .int .i64 L], .int .i64 ci] w fun e w' => e = .returned (.bool true) ∧ Below w.heap.size w w' := by
  by_cases hf : fewB sg mt L
  · by_cases hi : IsD sg mt L
    · by_cases h0 : ci < 0
      · exact wgl_neg A1 A2 c1 c2 sg mt L w hd ci hf hi h0
      · by_cases h1 : ((strandsL sg mt).length : Int) + L ≤ ci
        · exact wgl_far A1 A2 c1 c2 sg mt L w hd ci hf hi (by omega) h1
        · by_cases h2 : ((strandsL sg mt).length : Int) ≤ ci
          · exact wgl_loop A1 A2 c1 c2 sg mt L w hd ci hf hi h2 (by omega)
          · obtain ⟨i, rfl⟩ : ∃ i : Nat, ci = (i : Int) := ⟨ci.toNat, by omega⟩
            exact wgl_in A1 A2 c1 c2 sg mt L w hd hf hi i (by omega)
    · exact wgl_no A1 A2 c1 c2 sg mt L w hd ci hf hi
  · exact wgl_great A1 A2 c1 c2 sg mt L w hd ci hf
end Go.Proofs.Ytcjgfncbecbhjaa

