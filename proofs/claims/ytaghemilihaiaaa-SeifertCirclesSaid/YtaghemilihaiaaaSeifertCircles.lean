/-
  The law SeifertCircles, walked: the call returns true and writes nothing that was there.
-/
import Derived.Test.YtaghemilihaiaaaAw32
import Derived.Test.YtaghemilihaiaaaStrandM
import Derived.Test.YtaghemilihaiaaaDArg
namespace Go.Proofs.Ytaghemilihaiaaa
open Go.RowKit

theorem rows_at {ls : List (List Nat)} {k : Nat} (hk : k < ls.length) : (rows ls).getD k [] = ints ls[k] := by simp [rows, hk]
section
variable (A1 A2 : Option Addr) (c1 c2 : Nat) (sg mt : List Int) (L : Int) (w : World) (hd : DArg w A1 A2 sg mt L)
include hd

set_option maxHeartbeats 2000000 in
theorem scircles_great (hg : 14 < sg.length ∨ 80 < mt.length) :
    Calls Try.prog 3 #[.agg #[.slice A1 sg.length c1, .slice A2 mt.length c2, .int .i64 L]] w fun e w' => e = .returned (.bool true) ∧ Below w.heap.size w w' := by
  have HD := Lib.hid (DBox.start (c1 := c1) (c2 := c2) (L := L) (· < w.heap.size) hd.rs hd.rm (fun _ h => h))
  have HL1 := Lib.hid hd.ls
  have HL2 := Lib.hid hd.lm
  have HG := Lib.hid hg
  clear hd hg
  go_enter Try.func3, Try.ntmps3
  go_wp2_with fail
  refine (awake32 _).mono ?_
  rintro e w1 ⟨rfl, hb⟩
  have HD1 := Lib.hid (HD.out.below hb)
  have HB1 := Lib.hid (below_box (o := (.cells #[.slice A1 sg.length c1, .slice A2 mt.length c2, .int .i64 L] 24)) (by simpa using hb))
  clear hb
  have k0 := HD1.out.c0
  have k1 := HD1.out.c1
  have k2 := HD1.out.c2
  go_wp2_with fail
  refine (small_no A1 A2 c1 c2 sg mt L w1 HG.out).mono ?_
  rintro e w2 ⟨rfl, hb⟩
  have HD2 := Lib.hid (HD1.out.below hb)
  have HB2 := Lib.hid (HB1.out.trans (hb.mono HB1.out.size))
  clear hb k0 k1 k2 HD1 HB1
  have k0 := HD2.out.c0
  have k1 := HD2.out.c1
  have k2 := HD2.out.c2
  go_wp2_with fail
  go_ret
  exact ⟨rfl, HB2.out⟩

set_option maxHeartbeats 2000000 in
theorem scircles_no (hg1 : ¬ 14 < sg.length) (hg2 : ¬ 80 < mt.length) (hno : ¬ IsD sg mt L) :
    Calls Try.prog 3 #[.agg #[.slice A1 sg.length c1, .slice A2 mt.length c2, .int .i64 L]] w fun e w' => e = .returned (.bool true) ∧ Below w.heap.size w w' := by
  have HD := Lib.hid (DBox.start (c1 := c1) (c2 := c2) (L := L) (· < w.heap.size) hd.rs hd.rm (fun _ h => h))
  have HL1 := Lib.hid hd.ls
  have HL2 := Lib.hid hd.lm
  have HS1 := Lib.hid hg1
  have HS2 := Lib.hid hg2
  have HNO := Lib.hid hno
  have HR := Lib.hid (decide_eq_false hno)
  clear hd hg1 hg2 hno
  go_enter Try.func3, Try.ntmps3
  go_wp2_with fail
  refine (awake32 _).mono ?_
  rintro e w1 ⟨rfl, hb⟩
  have HD1 := Lib.hid (HD.out.below hb)
  have HB1 := Lib.hid (below_box (o := (.cells #[.slice A1 sg.length c1, .slice A2 mt.length c2, .int .i64 L] 24)) (by simpa using hb))
  clear hb
  have k0 := HD1.out.c0
  have k1 := HD1.out.c1
  have k2 := HD1.out.c2
  go_wp2_with fail
  refine (small_yes A1 A2 c1 c2 sg mt L w1 HS1.out HS2.out).mono ?_
  rintro e w2 ⟨rfl, hb⟩
  have HD2 := Lib.hid (HD1.out.below hb)
  have HB2 := Lib.hid (HB1.out.trans (hb.mono HB1.out.size))
  clear hb k0 k1 k2 HD1 HB1
  have k0 := HD2.out.c0
  have k1 := HD2.out.c1
  have k2 := HD2.out.c2
  go_wp2_with fail
  refine (scirc_no A1 A2 c1 c2 sg mt L w2 (· < w2.heap.size) HD2.out.rs HD2.out.rm (fun _ h => h) HL1.out HL2.out HNO.out).mono ?_
  rintro e w3 ⟨rfl, hb⟩
  have HD3 := Lib.hid (HD2.out.below hb)
  have HB3 := Lib.hid (HB2.out.trans (hb.mono HB2.out.size))
  clear hb k0 k1 k2 HD2 HB2
  have k0 := HD3.out.c0
  have k1 := HD3.out.c1
  have k2 := HD3.out.c2
  go_wp2_with fail
  refine (rvalid_is (· < w3.heap.size) false HD3.out.rs HD3.out.rm (fun _ h => h) HL1.out HL2.out HR.out).mono ?_
  rintro e w4 ⟨rfl, hb⟩
  have HD4 := Lib.hid (HD3.out.below hb)
  have HB4 := Lib.hid (HB3.out.trans (hb.mono HB3.out.size))
  clear hb k0 k1 k2 HD3 HB3
  have k0 := HD4.out.c0
  have k1 := HD4.out.c1
  have k2 := HD4.out.c2
  go_wp2_with fail
  go_ret
  exact ⟨rfl, HB4.out⟩

set_option maxHeartbeats 2000000 in
theorem scircles_ok (hg1 : ¬ 14 < sg.length) (hg2 : ¬ 80 < mt.length) (hi : IsD sg mt L) :
    Calls Try.prog 3 #[.agg #[.slice A1 sg.length c1, .slice A2 mt.length c2, .int .i64 L]] w fun e w' => e = .returned (.bool true) ∧ Below w.heap.size w w' := by
  have HD := Lib.hid (DBox.start (c1 := c1) (c2 := c2) (L := L) (· < w.heap.size) hd.rs hd.rm (fun _ h => h))
  have HL1 := Lib.hid hd.ls
  have HL2 := Lib.hid hd.lm
  have HS1 := Lib.hid hg1
  have HS2 := Lib.hid hg2
  have HI := Lib.hid hi
  have htot := circ_tot hi
  have HT := Lib.hid htot
  have hsl : sg.length ≤ 14 := by omega
  clear hd hg1 hg2 hi htot
  go_enter Try.func3, Try.ntmps3
  go_wp2_with fail
  refine (awake32 _).mono ?_
  rintro e w1 ⟨rfl, hb⟩
  have HD1 := Lib.hid (HD.out.below hb)
  have HB1 := Lib.hid (below_box (o := (.cells #[.slice A1 sg.length c1, .slice A2 mt.length c2, .int .i64 L] 24)) (by simpa using hb))
  clear hb
  have k0 := HD1.out.c0
  have k1 := HD1.out.c1
  have k2 := HD1.out.c2
  go_wp2_with fail
  refine (small_yes A1 A2 c1 c2 sg mt L w1 HS1.out HS2.out).mono ?_
  rintro e w2 ⟨rfl, hb⟩
  have HD2 := Lib.hid (HD1.out.below hb)
  have HB2 := Lib.hid (HB1.out.trans (hb.mono HB1.out.size))
  clear hb k0 k1 k2 HD1 HB1
  have k0 := HD2.out.c0
  have k1 := HD2.out.c1
  have k2 := HD2.out.c2
  go_wp2_with fail
  refine (scirc_ok A1 A2 c1 c2 sg mt L w2 (· < w2.heap.size) HD2.out.rs HD2.out.rm (fun _ h => h) HI.out).mono ?_
  rintro e w3 ⟨v, rfl, hr, hb⟩
  have HD3 := Lib.hid (HD2.out.below hb)
  have HB3 := Lib.hid (HB2.out.trans (hb.mono HB2.out.size))
  obtain ⟨A, c, rfl, hrl⟩ := hr.reads
  have HRL := Lib.hid (hrl.imp (T := (· < w3.heap.size)) fun b hb => hb.2)
  clear hr hrl
  clear hb k0 k1 k2 HD2 HB2
  have k0 := HD3.out.c0
  have k1 := HD3.out.c1
  have k2 := HD3.out.c2
  go_wp2_with fail
  refine (rvalid_is (· < w3.heap.size) true HD3.out.rs HD3.out.rm (fun _ h => h) HL1.out HL2.out (decide_eq_true HI.out)).mono ?_
  rintro e w4 ⟨rfl, hb⟩
  have HD4 := Lib.hid (HD3.out.below hb)
  have HB4 := Lib.hid (HB3.out.trans (hb.mono HB3.out.size))
  have HRL4 := Lib.hid ((HRL.out.below hb).imp (T := (· < w4.heap.size)) fun b hb2 => by have := hb.size; omega)
  clear HRL
  clear hb k0 k1 k2 HD3 HB3
  have k0 := HD4.out.c0
  have k1 := HD4.out.c1
  have k2 := HD4.out.c2
  go_wp2_with fail
  refine (rcircles_any A1 A2 c1 c2 sg mt L w4 (· < w4.heap.size) HD4.out.rs HD4.out.rm (fun _ h => h) HI.out).mono ?_
  rintro e w5 ⟨v, rfl, hr, hb⟩
  have HD5 := Lib.hid (HD4.out.below hb)
  have HB5 := Lib.hid (HB4.out.trans (hb.mono HB4.out.size))
  obtain ⟨A', c', rfl, hrl⟩ := hr.reads
  have HRR := Lib.hid (hrl.imp (T := (· < w5.heap.size)) fun b hb => hb.2)
  have HRL5 := Lib.hid ((HRL4.out.below hb).imp (T := (· < w5.heap.size)) fun b hb2 => by have := hb.size; omega)
  clear hr hrl HRL4
  clear hb k0 k1 k2 HD4 HB4
  have k0 := HD5.out.c0
  have k1 := HD5.out.c1
  have k2 := HD5.out.c2
  go_wp2_with fail
  refine (rlists_is (· < w5.heap.size) true HRL5.out HRR.out rfl rfl (by have := rows_cycs_length (circL sg mt); have := cycsL_len (nxC sg mt) mt.length (outB sg) mt.length; unfold circL; have := HI.out.2.1; omega) (decide_eq_true rfl)).mono ?_
  rintro e w6 ⟨rfl, n6, hw6⟩
  have HB6 : Hid (Below w.heap.size w w6) := by rw [hw6]; exact below_drewN HB5.out n6
  have HD6 : Hid (DBox w6 w.heap.size A1 A2 c1 c2 sg mt L) := by rw [hw6]; exact ⟨HD5.out.c0, HD5.out.c1, HD5.out.c2, HD5.out.lt, HD5.out.rs, HD5.out.rm⟩
  have HRL6 : Hid (RL w6 (· < w5.heap.size) A (rows (circL sg mt))) := by rw [hw6]; exact HRL5.out.drewN n6
  clear hw6 k0 k1 k2 HD5 HB5 HRL5 HRR
  have k0 := HD6.out.c0
  obtain ⟨q, hq⟩ : ∃ q, (rows (circL sg mt)).length = q := ⟨_, rfl⟩
  have hqc : (circL sg mt).length = q := by rw [← hq, rows_cycs_length]
  have HQ := Lib.hid hqc
  have hqb : q ≤ 100 := by
    have := cycsL_len (nxC sg mt) mt.length (outB sg) mt.length
    have := HI.out.2.1
    unfold circL at hq
    omega
  rw [hq]
  clear hqc
  have HQ2 := Lib.hid hq
  clear hq
  go_wp2_with fail
  go_loop [5, 6] (fun s i => ∃ k : Nat, k ≤ q ∧ i = .int .i64 k ∧ s = .int .i64 (tot ((circL sg mt).take k) : Nat)) (fun _ i => q - (intOf i).toNat)
  case atStart => exact ⟨0, Nat.zero_le _, rfl, rfl⟩
  case round =>
    obtain ⟨k, hk, rfl, rfl⟩ := hrel
    have hle := tot_take_le (circL sg mt) k
    rw [HT.out] at hle
    obtain ⟨t, ht⟩ : ∃ t, tot ((circL sg mt).take k) = t := ⟨_, rfl⟩
    rw [ht] at hle ⊢
    have HTE := Lib.hid ht
    by_cases hlt : k < q
    · obtain ⟨b, off, rfl, -, hc⟩ := HRL6.out.at_ (by rw [HQ2.out]; exact hlt)
      obtain ⟨Ak, ck, k3, -, -⟩ := hc k (by rw [HQ2.out]; exact hlt)
      have hst := tot_take (circL sg mt) (k := k) (by rw [HQ.out]; exact hlt)
      have hle2 := tot_take_le (circL sg mt) (k + 1)
      rw [rows_at (by rw [HQ.out]; exact hlt), ints_length] at k3
      obtain ⟨l, hl⟩ : ∃ l, ((circL sg mt)[k]'(by rw [HQ.out]; exact hlt)).length = l := ⟨_, rfl⟩
      rw [hl] at k3 hst
      rw [hst, HT.out, ht] at hle2
      have HST := Lib.hid hst
      clear hc hst hl ht hle
      go_wp2_with fail
      go_round
      case rel => exact ⟨k + 1, by omega, by go_num, by rw [HST.out, HTE.out]; go_num⟩
      case measure => simp [intOf]; omega
    · obtain rfl : q = k := by omega
      have he : (t : Int) = 2 * (sg.length : Int) := by
        have := HT.out
        rw [← ht, List.take_of_length_le (by rw [HQ.out]; omega), this]
        omega
      clear ht hlt
      go_wp2_with fail
      go_ret
      exact ⟨rfl, HB6.out⟩

theorem seifertCircles_walk : 
    Calls Try.prog 3 #[.agg #[.slice A1 sg.length c1, .slice A2 mt.length c2, .int .i64 L]] w fun e w' => e = .returned (.bool true) ∧ Below w.heap.size w w' := by
  by_cases hg : 14 < sg.length ∨ 80 < mt.length
  · exact scircles_great A1 A2 c1 c2 sg mt L w hd hg
  · by_cases hi : IsD sg mt L
    · exact scircles_ok A1 A2 c1 c2 sg mt L w hd (by omega) (by omega) hi
    · exact scircles_no A1 A2 c1 c2 sg mt L w hd (by omega) (by omega) hi
end
end Go.Proofs.Ytaghemilihaiaaa

