/-
  The law WirtingerArcs, walked: the call returns true and writes nothing that was there.
-/
import Derived.Test.YtcjgfncbecbhjaaAw22
import Derived.Test.YtcjgfncbecbhjaaRArcs
import Derived.Test.YtcjgfncbecbhjaaDEqual
import Derived.Test.YtcjgfncbecbhjaaRValid
import Derived.Test.YtcjgfncbecbhjaaDArg
namespace Go.Proofs.Ytcjgfncbecbhjaa
open Go.RowKit

section
variable (A1 A2 : Option Addr) (c1 c2 : Nat) (sg mt : List Int) (L : Int) (w : World) (hd : DArg w A1 A2 sg mt L)
include hd

set_option maxHeartbeats 2000000 in
theorem wal_great (hf : ¬ fewB sg mt L) :
    Calls Try.prog 3 #[.agg #[.slice A1 sg.length c1, .slice A2 mt.length c2, .int .i64 L]] w fun e w' => e = .returned (.bool true) ∧ Below w.heap.size w w' := by
  have HD := Lib.hid (DBox.start (c1 := c1) (c2 := c2) (L := L) (· < w.heap.size) hd.rs hd.rm (fun _ h => h))
  have HL1 := Lib.hid hd.ls
  have HL2 := Lib.hid hd.lm
  have HF := Lib.hid hf
  clear hd hf
  go_enter Try.func3, Try.ntmps3
  go_wp2_with fail
  refine (awake22 _).mono ?_
  rintro e w1 ⟨rfl, hb⟩
  have HD1 := Lib.hid (HD.out.below hb)
  have HB1 := Lib.hid (below_box (o := (.cells #[.slice A1 sg.length c1, .slice A2 mt.length c2, .int .i64 L] 24)) (by simpa using hb))
  clear hb
  have k0 := HD1.out.c0
  have k1 := HD1.out.c1
  have k2 := HD1.out.c2
  go_wp2_with fail
  refine (few_no A1 A2 c1 c2 sg mt L w1 HF.out).mono ?_
  rintro e w2 ⟨rfl, hb⟩
  have HD2 := Lib.hid (HD1.out.below hb)
  have HB2 := Lib.hid (HB1.out.trans (hb.mono HB1.out.size))
  clear hb k0 k1 k2 HD1 HB1
  have k0 := HD2.out.c0
  have k1 := HD2.out.c1
  have k2 := HD2.out.c2
  go_wp2_with fail
  refine (awake22 _).mono ?_
  rintro e w3 ⟨rfl, hb⟩
  have HD3 := Lib.hid (HD2.out.below hb)
  have HB3 := Lib.hid (HB2.out.trans (hb.mono HB2.out.size))
  clear hb k0 k1 k2 HD2 HB2
  have k0 := HD3.out.c0
  have k1 := HD3.out.c1
  have k2 := HD3.out.c2
  go_wp2_with fail
  go_ret
  exact ⟨rfl, HB3.out⟩

set_option maxHeartbeats 2000000 in
theorem wal_no (hf : fewB sg mt L) (hno : ¬ IsD sg mt L) :
    Calls Try.prog 3 #[.agg #[.slice A1 sg.length c1, .slice A2 mt.length c2, .int .i64 L]] w fun e w' => e = .returned (.bool true) ∧ Below w.heap.size w w' := by
  have HD := Lib.hid (DBox.start (c1 := c1) (c2 := c2) (L := L) (· < w.heap.size) hd.rs hd.rm (fun _ h => h))
  have HL1 := Lib.hid hd.ls
  have HL2 := Lib.hid hd.lm
  have HF := Lib.hid hf
  have HNO := Lib.hid hno
  have HR := Lib.hid (decide_eq_false hno)
  clear hd hf hno
  go_enter Try.func3, Try.ntmps3
  go_wp2_with fail
  refine (awake22 _).mono ?_
  rintro e w1 ⟨rfl, hb⟩
  have HD1 := Lib.hid (HD.out.below hb)
  have HB1 := Lib.hid (below_box (o := (.cells #[.slice A1 sg.length c1, .slice A2 mt.length c2, .int .i64 L] 24)) (by simpa using hb))
  clear hb
  have k0 := HD1.out.c0
  have k1 := HD1.out.c1
  have k2 := HD1.out.c2
  go_wp2_with fail
  refine (few_yes A1 A2 c1 c2 sg mt L w1 HF.out).mono ?_
  rintro e w2 ⟨rfl, hb⟩
  have HD2 := Lib.hid (HD1.out.below hb)
  have HB2 := Lib.hid (HB1.out.trans (hb.mono HB1.out.size))
  clear hb k0 k1 k2 HD1 HB1
  have k0 := HD2.out.c0
  have k1 := HD2.out.c1
  have k2 := HD2.out.c2
  go_wp2_with fail
  refine (wArcs_no A1 A2 c1 c2 sg mt L w2 (· < w2.heap.size) HD2.out.rs HD2.out.rm (fun _ h => h) HL1.out HL2.out HNO.out).mono ?_
  rintro e w3 ⟨rfl, hb⟩
  have HD3 := Lib.hid (HD2.out.below hb)
  have HB3 := Lib.hid (HB2.out.trans (hb.mono HB2.out.size))
  clear hb k0 k1 k2 HD2 HB2
  have k0 := HD3.out.c0
  have k1 := HD3.out.c1
  have k2 := HD3.out.c2
  go_wp2_with fail
  refine (rvalid_is (· < w3.heap.size) false HD3.out.rs HD3.out.rm (fun _ h => h) HL1.out HL2.out HR.out).mono ?_
  rintro e w4 ⟨rfl, hb⟩
  have HD4 := Lib.hid (HD3.out.below hb)
  have HB4 := Lib.hid (HB3.out.trans (hb.mono HB3.out.size))
  clear hb k0 k1 k2 HD3 HB3
  have k0 := HD4.out.c0
  have k1 := HD4.out.c1
  have k2 := HD4.out.c2
  go_wp2_with fail
  go_ret
  exact ⟨rfl, HB4.out⟩

set_option maxHeartbeats 4000000 in
theorem wal_ok (hf : fewB sg mt L) (hi : IsD sg mt L) :
    Calls Try.prog 3 #[.agg #[.slice A1 sg.length c1, .slice A2 mt.length c2, .int .i64 L]] w fun e w' => e = .returned (.bool true) ∧ Below w.heap.size w w' := by
  have HD := Lib.hid (DBox.start (c1 := c1) (c2 := c2) (L := L) (· < w.heap.size) hd.rs hd.rm (fun _ h => h))
  have HL1 := Lib.hid hd.ls
  have HL2 := Lib.hid hd.lm
  have HF := Lib.hid hf
  have HI := Lib.hid hi
  have hL0 : 0 ≤ L ∧ L ≤ 64 := ⟨hi.2.2.1, hi.2.2.2.1⟩
  have hcn : arC sg mt ≤ 256 := by
    have h1 := cnt_le (headB (arR sg mt)) mt.length
    have h2 := hi.1
    have h3 := hi.2.1
    unfold arC; omega
  obtain ⟨m, hm⟩ : ∃ m, arC sg mt = m := ⟨_, rfl⟩
  rw [hm] at hcn
  have HM := Lib.hid hm
  have hs1 : IntKind.i64.wrap ((m : Int) + L) = (m : Int) + L := IntWalk.i64_in _ (by omega)
  clear hd hf hi hm
  go_enter Try.func3, Try.ntmps3
  go_wp2_with fail
  refine (awake22 _).mono ?_
  rintro e w1 ⟨rfl, hb⟩
  have HD1 := Lib.hid (HD.out.below hb)
  have HB1 := Lib.hid (below_box (o := (.cells #[.slice A1 sg.length c1, .slice A2 mt.length c2, .int .i64 L] 24)) (by simpa using hb))
  clear hb
  have k0 := HD1.out.c0
  have k1 := HD1.out.c1
  have k2 := HD1.out.c2
  go_wp2_with fail
  refine (few_yes A1 A2 c1 c2 sg mt L w1 HF.out).mono ?_
  rintro e w2 ⟨rfl, hb⟩
  have HD2 := Lib.hid (HD1.out.below hb)
  have HB2 := Lib.hid (HB1.out.trans (hb.mono HB1.out.size))
  clear hb k0 k1 k2 HD1 HB1
  have k0 := HD2.out.c0
  have k1 := HD2.out.c1
  have k2 := HD2.out.c2
  go_wp2_with fail
  refine (wArcs_ok A1 A2 c1 c2 sg mt L w2 (· < w2.heap.size) HD2.out.rs HD2.out.rm (fun _ h => h) HI.out).mono ?_
  rintro e w3 ⟨v, rfl, ho, hb⟩
  have HD3 := Lib.hid (HD2.out.below hb)
  have HB3 := Lib.hid (HB2.out.trans (hb.mono HB2.out.size))
  obtain ⟨A, c, rfl, -, -, hr⟩ := ho.reads
  rw [HM.out, arL_len]
  have HRL := Lib.hid (hr.imp (T := (· < w3.heap.size)) fun b hb => hb.2)
  clear hr ho
  clear hb k0 k1 k2 HD2 HB2
  have k0 := HD3.out.c0
  have k1 := HD3.out.c1
  have k2 := HD3.out.c2
  go_wp2_with fail
  refine (rvalid_is (· < w3.heap.size) true HD3.out.rs HD3.out.rm (fun _ h => h) HL1.out HL2.out (decide_eq_true HI.out)).mono ?_
  rintro e w4 ⟨rfl, hb⟩
  have HD4 := Lib.hid (HD3.out.below hb)
  have HB4 := Lib.hid (HB3.out.trans (hb.mono HB3.out.size))
  have HRL4 := Lib.hid ((HRL.out.below hb).imp (T := (· < w4.heap.size)) fun b hb2 => by have := hb.size; omega)
  clear HRL
  clear hb k0 k1 k2 HD3 HB3
  have k0 := HD4.out.c0
  have k1 := HD4.out.c1
  have k2 := HD4.out.c2
  go_wp2_with fail
  refine (rarcs_ok A1 A2 c1 c2 sg mt L w4 (· < w4.heap.size) HD4.out.rs HD4.out.rm (fun _ h => h) HI.out).mono ?_
  rintro e w5 ⟨v, rfl, ho, hb⟩
  have HD5 := Lib.hid (HD4.out.below hb)
  have HB5 := Lib.hid (HB4.out.trans (hb.mono HB4.out.size))
  obtain ⟨A', c', rfl, -, -, hr⟩ := ho.reads
  rw [HM.out, arL_len]
  have HRR := Lib.hid (hr.imp (T := (· < w5.heap.size)) fun b hb => hb.2)
  have HRL5 := Lib.hid ((HRL4.out.below hb).imp (T := (· < w5.heap.size)) fun b hb2 => by have := hb.size; omega)
  clear hr ho HRL4
  clear hb k0 k1 k2 HD4 HB4
  have k0 := HD5.out.c0
  have k1 := HD5.out.c1
  have k2 := HD5.out.c2
  go_wp2_with fail
  refine (sequal_is (· < w5.heap.size) (· < w5.heap.size) true HRL5.out HRR.out (arL_len sg mt) (arL_len sg mt) HL2.out HL2.out (decide_eq_true rfl)).mono ?_
  rintro e w6 ⟨rfl, n6, rfl⟩
  have he : ((m : Int) + L == (m : Int) + L) = true := by rw [beq_iff_eq]
  go_wp2_with fail
  go_ret
  exact ⟨rfl, below_drewN HB5.out n6⟩

theorem wirtingerArcs_walk : 
    Calls Try.prog 3 #[.agg #[.slice A1 sg.length c1, .slice A2 mt.length c2, .int .i64 L]] w fun e w' => e = .returned (.bool true) ∧ Below w.heap.size w w' := by
  by_cases hf : fewB sg mt L
  · by_cases hi : IsD sg mt L
    · exact wal_ok A1 A2 c1 c2 sg mt L w hd hf hi
    · exact wal_no A1 A2 c1 c2 sg mt L w hd hf hi
  · exact wal_great A1 A2 c1 c2 sg mt L w hd hf
end
end Go.Proofs.Ytcjgfncbecbhjaa

