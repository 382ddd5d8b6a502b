/-
  The law SeifertIncoherent, walked: the call returns true and writes nothing that was there.
-/
import Derived.Test.YtaghemilihaiaaaAw32
import Derived.Test.YtaghemilihaiaaaSInc
import Derived.Test.YtaghemilihaiaaaRInc
import Derived.Test.YtaghemilihaiaaaDArg
namespace Go.Proofs.Ytaghemilihaiaaa
open Go.RowKit

theorem incN_le {sg mt : List Int} (h : mt.length ≤ 256) : (incL sg mt mt.length).length ≤ 65536 := by
  have h1 := incL_len sg mt mt.length
  have h2 : mt.length * mt.length ≤ 256 * 256 := Nat.mul_le_mul h h
  omega
section
variable (A1 A2 : Option Addr) (c1 c2 : Nat) (sg mt : List Int) (L : Int) (w : World) (hd : DArg w A1 A2 sg mt L)
include hd

set_option maxHeartbeats 2000000 in
theorem sinl_great (hg : 14 < sg.length ∨ 80 < mt.length) :
    Calls Try.prog 7 #[.agg #[.slice A1 sg.length c1, .slice A2 mt.length c2, .int .i64 L]] w fun e w' => e = .returned (.bool true) ∧ Below w.heap.size w w' := by
  have HD := Lib.hid (DBox.start (c1 := c1) (c2 := c2) (L := L) (· < w.heap.size) hd.rs hd.rm (fun _ h => h))
  have HL1 := Lib.hid hd.ls
  have HL2 := Lib.hid hd.lm
  have HG := Lib.hid hg
  clear hd hg
  go_enter Try.func7, Try.ntmps7
  go_wp2_with fail
  refine (awake32 _).mono ?_
  rintro e w1 ⟨rfl, hb⟩
  have HD1 := Lib.hid (HD.out.below hb)
  have HB1 := Lib.hid (below_box (o := (.cells #[.slice A1 sg.length c1, .slice A2 mt.length c2, .int .i64 L] 24)) (by simpa using hb))
  clear hb
  have k0 := HD1.out.c0
  have k1 := HD1.out.c1
  have k2 := HD1.out.c2
  go_wp2_with fail
  refine (small_no A1 A2 c1 c2 sg mt L w1 HG.out).mono ?_
  rintro e w2 ⟨rfl, hb⟩
  have HD2 := Lib.hid (HD1.out.below hb)
  have HB2 := Lib.hid (HB1.out.trans (hb.mono HB1.out.size))
  clear hb k0 k1 k2 HD1 HB1
  have k0 := HD2.out.c0
  have k1 := HD2.out.c1
  have k2 := HD2.out.c2
  go_wp2_with fail
  go_ret
  exact ⟨rfl, HB2.out⟩

set_option maxHeartbeats 2000000 in
theorem sinl_ten (hg1 : ¬ 14 < sg.length) (hg2 : ¬ 80 < mt.length) (hg3 : 10 < sg.length) :
    Calls Try.prog 7 #[.agg #[.slice A1 sg.length c1, .slice A2 mt.length c2, .int .i64 L]] w fun e w' => e = .returned (.bool true) ∧ Below w.heap.size w w' := by
  have HD := Lib.hid (DBox.start (c1 := c1) (c2 := c2) (L := L) (· < w.heap.size) hd.rs hd.rm (fun _ h => h))
  have HL1 := Lib.hid hd.ls
  have HL2 := Lib.hid hd.lm
  have HS1 := Lib.hid hg1
  have HS2 := Lib.hid hg2
  have hg4 : (10 : Int) < sg.length := by omega
  clear hd hg1 hg2 hg3
  go_enter Try.func7, Try.ntmps7
  go_wp2_with fail
  refine (awake32 _).mono ?_
  rintro e w1 ⟨rfl, hb⟩
  have HD1 := Lib.hid (HD.out.below hb)
  have HB1 := Lib.hid (below_box (o := (.cells #[.slice A1 sg.length c1, .slice A2 mt.length c2, .int .i64 L] 24)) (by simpa using hb))
  clear hb
  have k0 := HD1.out.c0
  have k1 := HD1.out.c1
  have k2 := HD1.out.c2
  go_wp2_with fail
  refine (small_yes A1 A2 c1 c2 sg mt L w1 HS1.out HS2.out).mono ?_
  rintro e w2 ⟨rfl, hb⟩
  have HD2 := Lib.hid (HD1.out.below hb)
  have HB2 := Lib.hid (HB1.out.trans (hb.mono HB1.out.size))
  clear hb k0 k1 k2 HD1 HB1
  have k0 := HD2.out.c0
  have k1 := HD2.out.c1
  have k2 := HD2.out.c2
  go_wp2_with fail
  go_ret
  exact ⟨rfl, HB2.out⟩

set_option maxHeartbeats 2000000 in
theorem sinl_no (hg1 : ¬ 14 < sg.length) (hg2 : ¬ 80 < mt.length) (hg3 : ¬ 10 < sg.length) (hno : ¬ IsD sg mt L) :
    Calls Try.prog 7 #[.agg #[.slice A1 sg.length c1, .slice A2 mt.length c2, .int .i64 L]] w fun e w' => e = .returned (.bool true) ∧ Below w.heap.size w w' := by
  have HD := Lib.hid (DBox.start (c1 := c1) (c2 := c2) (L := L) (· < w.heap.size) hd.rs hd.rm (fun _ h => h))
  have HL1 := Lib.hid hd.ls
  have HL2 := Lib.hid hd.lm
  have HS1 := Lib.hid hg1
  have HS2 := Lib.hid hg2
  have HNO := Lib.hid hno
  have HR := Lib.hid (decide_eq_false hno)
  have hg4 : ¬ (10 : Int) < sg.length := by omega
  clear hd hg1 hg2 hno
  go_enter Try.func7, Try.ntmps7
  go_wp2_with fail
  refine (awake32 _).mono ?_
  rintro e w1 ⟨rfl, hb⟩
  have HD1 := Lib.hid (HD.out.below hb)
  have HB1 := Lib.hid (below_box (o := (.cells #[.slice A1 sg.length c1, .slice A2 mt.length c2, .int .i64 L] 24)) (by simpa using hb))
  clear hb
  have k0 := HD1.out.c0
  have k1 := HD1.out.c1
  have k2 := HD1.out.c2
  go_wp2_with fail
  refine (small_yes A1 A2 c1 c2 sg mt L w1 HS1.out HS2.out).mono ?_
  rintro e w2 ⟨rfl, hb⟩
  have HD2 := Lib.hid (HD1.out.below hb)
  have HB2 := Lib.hid (HB1.out.trans (hb.mono HB1.out.size))
  clear hb k0 k1 k2 HD1 HB1
  have k0 := HD2.out.c0
  have k1 := HD2.out.c1
  have k2 := HD2.out.c2
  go_wp2_with fail
  refine (sinc_no A1 A2 c1 c2 sg mt L w2 (· < w2.heap.size) HD2.out.rs HD2.out.rm (fun _ h => h) HL1.out HL2.out HNO.out).mono ?_
  rintro e w3 ⟨rfl, hb⟩
  have HD3 := Lib.hid (HD2.out.below hb)
  have HB3 := Lib.hid (HB2.out.trans (hb.mono HB2.out.size))
  clear hb k0 k1 k2 HD2 HB2
  have k0 := HD3.out.c0
  have k1 := HD3.out.c1
  have k2 := HD3.out.c2
  go_wp2_with fail
  refine (rvalid_is (· < w3.heap.size) false HD3.out.rs HD3.out.rm (fun _ h => h) HL1.out HL2.out HR.out).mono ?_
  rintro e w4 ⟨rfl, hb⟩
  have HD4 := Lib.hid (HD3.out.below hb)
  have HB4 := Lib.hid (HB3.out.trans (hb.mono HB3.out.size))
  clear hb k0 k1 k2 HD3 HB3
  have k0 := HD4.out.c0
  have k1 := HD4.out.c1
  have k2 := HD4.out.c2
  go_wp2_with fail
  go_ret
  exact ⟨rfl, HB4.out⟩

set_option maxHeartbeats 4000000 in
theorem sinl_ok (hg1 : ¬ 14 < sg.length) (hg2 : ¬ 80 < mt.length) (hg3 : ¬ 10 < sg.length) (hi : IsD sg mt L) :
    Calls Try.prog 7 #[.agg #[.slice A1 sg.length c1, .slice A2 mt.length c2, .int .i64 L]] w fun e w' => e = .returned (.bool true) ∧ Below w.heap.size w w' := by
  have HD := Lib.hid (DBox.start (c1 := c1) (c2 := c2) (L := L) (· < w.heap.size) hd.rs hd.rm (fun _ h => h))
  have HL1 := Lib.hid hd.ls
  have HL2 := Lib.hid hd.lm
  have HS1 := Lib.hid hg1
  have HS2 := Lib.hid hg2
  have HI := Lib.hid hi
  have h256 : mt.length ≤ 256 := by omega
  have hg4 : ¬ (10 : Int) < sg.length := by omega
  obtain ⟨q, hq⟩ : ∃ q, (incL sg mt mt.length).length = q := ⟨_, rfl⟩
  have hqb : q ≤ 65536 := by rw [← hq]; exact incN_le h256
  have HQ := Lib.hid hq
  clear hd hg1 hg2 hi hq
  go_enter Try.func7, Try.ntmps7
  go_wp2_with fail
  refine (awake32 _).mono ?_
  rintro e w1 ⟨rfl, hb⟩
  have HD1 := Lib.hid (HD.out.below hb)
  have HB1 := Lib.hid (below_box (o := (.cells #[.slice A1 sg.length c1, .slice A2 mt.length c2, .int .i64 L] 24)) (by simpa using hb))
  clear hb
  have k0 := HD1.out.c0
  have k1 := HD1.out.c1
  have k2 := HD1.out.c2
  go_wp2_with fail
  refine (small_yes A1 A2 c1 c2 sg mt L w1 HS1.out HS2.out).mono ?_
  rintro e w2 ⟨rfl, hb⟩
  have HD2 := Lib.hid (HD1.out.below hb)
  have HB2 := Lib.hid (HB1.out.trans (hb.mono HB1.out.size))
  clear hb k0 k1 k2 HD1 HB1
  have k0 := HD2.out.c0
  have k1 := HD2.out.c1
  have k2 := HD2.out.c2
  go_wp2_with fail
  refine (sinc_ok A1 A2 c1 c2 sg mt L w2 (· < w2.heap.size) HD2.out.rs HD2.out.rm (fun _ h => h) HI.out h256).mono ?_
  rintro e w3 ⟨v, rfl, hp, hb⟩
  have HD3 := Lib.hid (HD2.out.below hb)
  have HB3 := Lib.hid (HB2.out.trans (hb.mono HB2.out.size))
  obtain ⟨A, c, rfl, -, -⟩ := hp.shape
  rw [HQ.out] at hp ⊢
  have HP3 := Lib.hid hp
  clear hp
  clear hb k0 k1 k2 HD2 HB2
  have k0 := HD3.out.c0
  have k1 := HD3.out.c1
  have k2 := HD3.out.c2
  go_wp2_with fail
  refine (rvalid_is (· < w3.heap.size) true HD3.out.rs HD3.out.rm (fun _ h => h) HL1.out HL2.out (decide_eq_true HI.out)).mono ?_
  rintro e w4 ⟨rfl, hb⟩
  have HD4 := Lib.hid (HD3.out.below hb)
  have HB4 := Lib.hid (HB3.out.trans (hb.mono HB3.out.size))
  have HP4 := Lib.hid (HP3.out.below hb (Nat.le_refl _))
  clear HP3
  clear hb k0 k1 k2 HD3 HB3
  have k0 := HD4.out.c0
  have k1 := HD4.out.c1
  have k2 := HD4.out.c2
  go_wp2_with fail
  refine (rinc_any A1 A2 c1 c2 sg mt L w4 (· < w4.heap.size) HD4.out.rs HD4.out.rm (fun _ h => h) HI.out h256).mono ?_
  rintro e w5 ⟨v, rfl, hp, hb⟩
  have HD5 := Lib.hid (HD4.out.below hb)
  have HB5 := Lib.hid (HB4.out.trans (hb.mono HB4.out.size))
  obtain ⟨A', c', rfl, -, -⟩ := hp.shape
  rw [HQ.out] at hp ⊢
  have HP5 := Lib.hid (HP4.out.below hb (Nat.le_refl _))
  have HR5 := Lib.hid hp
  clear hp HP4
  clear hb k0 k1 k2 HD4 HB4
  have k0 := HD5.out.c0
  have k1 := HD5.out.c1
  have k2 := HD5.out.c2
  go_wp2_with fail
  clear k0 k1 k2
  go_loopw [5] (fun i wr => ∃ k n : Nat, k ≤ q ∧ i = .int .i64 k ∧ wr = w5.drewN n) (fun i _ => q - (intOf i).toNat)
  case atStart => exact ⟨0, 0, Nat.zero_le _, rfl, rfl⟩
  case round =>
    obtain ⟨k, n, hk, rfl, rfl⟩ := hrel
    by_cases hlt : k < q
    · obtain ⟨g1, d1, hv1, -, -, -, hc1⟩ := HP5.out.at_ (k := k) (by rw [HQ.out]; exact hlt)
      obtain ⟨g2, d2, hv2, -, -, -, hc2⟩ := HR5.out.at_ (k := k) (by rw [HQ.out]; exact hlt)
      injection hv1 with a1 a2 a3
      injection hv2 with b1 b2 b3
      subst a1 b1
      obtain ⟨p1, p2⟩ := hc1 k (by rw [HQ.out]; exact hlt)
      obtain ⟨q1, q2⟩ := hc2 k (by rw [HQ.out]; exact hlt)
      obtain ⟨x, hx⟩ : ∃ x, ((incL sg mt mt.length)[k]'(by rw [HQ.out]; exact hlt)).1 = x := ⟨_, rfl⟩
      obtain ⟨y, hy⟩ : ∃ y, ((incL sg mt mt.length)[k]'(by rw [HQ.out]; exact hlt)).2 = y := ⟨_, rfl⟩
      rw [hx] at p1 q1
      rw [hy] at p2 q2
      rw [Nat.mul_comm] at p1 p2 q1 q2
      clear hc1 hc2 hx hy a2 a3 b2 b3
      have heq := fun w' => eq_pair x y x y w'
      simp only [beq_self_eq_true, Bool.and_self] at heq
      go_wp2_with fail
      go_quiet (fail)
      go_wp2_with fail
      go_roundw
      case rel => exact ⟨k + 1, _, by omega, by go_num, rfl⟩
      case measure => simp [intOf]; omega
    · obtain rfl : q = k := by omega
      go_wp2_with fail
      go_ret
      exact ⟨rfl, below_drewN HB5.out _⟩

theorem seifertIncoherent_walk : 
    Calls Try.prog 7 #[.agg #[.slice A1 sg.length c1, .slice A2 mt.length c2, .int .i64 L]] w fun e w' => e = .returned (.bool true) ∧ Below w.heap.size w w' := by
  by_cases hg : 14 < sg.length ∨ 80 < mt.length
  · exact sinl_great A1 A2 c1 c2 sg mt L w hd hg
  · by_cases h3 : 10 < sg.length
    · exact sinl_ten A1 A2 c1 c2 sg mt L w hd (by omega) (by omega) h3
    · by_cases hi : IsD sg mt L
      · exact sinl_ok A1 A2 c1 c2 sg mt L w hd (by omega) (by omega) h3 hi
      · exact sinl_no A1 A2 c1 c2 sg mt L w hd (by omega) (by omega) h3 hi
end
end Go.Proofs.Ytaghemilihaiaaa

