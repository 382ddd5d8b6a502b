/-
  The law IntmatrixKernel, walked: the call returns true and writes nothing that was there.
-/
import Derived.Test.YtjlokbolmindgaaL26
import Derived.Test.YtjlokbolmindgaaRKer
namespace Go.Proofs.Ytjlokbolmindgaa
open Go.RowKit

section
variable (A : Option Addr) (cap : Nat) (xss : List (List Int)) (w : World) (hm : AM w A xss.length xss)
include hm
set_option maxHeartbeats 4000000 in
theorem ikr_no (md : Int) (h : ¬ szB xss 4) : Calls Try.prog 4 #[.slice A xss.length cap, .int .i64 md] w fun e w' => e = .returned (.bool true) ∧ Below w.heap.size w w' := by
  have HM_0 := Lib.hid hm
  have HD := Lib.hid (decide_eq_false h)
  clear hm h
  go_enter Try.func4, Try.ntmps4
  go_wp2_with fail
  refine (awake26 w).mono ?_
  rintro e w1 ⟨rfl, hb⟩
  have HM_1 := Lib.hid (HM_0.out.call hb)
  have HB_1 := Lib.hid hb
  clear hb HM_0
  go_wp2_with fail
  refine (size_any (cap := cap) HM_1.out 4).mono ?_
  rintro e w_ ⟨rfl, rfl⟩
  rw [HD.out]
  go_wp2_with fail
  go_ret
  exact ⟨rfl, HB_1.out⟩
set_option maxHeartbeats 4000000 in
theorem ikr_mid (md : Int) (h : szB xss 4) (h1 : 7 < md) (h2 : md ≤ 1125899906842624) : Calls Try.prog 4 #[.slice A xss.length cap, .int .i64 md] w fun e w' => e = .returned (.bool true) ∧ Below w.heap.size w w' := by
  have HM_0 := Lib.hid hm
  have HD := Lib.hid (decide_eq_true h)
  clear hm h
  go_enter Try.func4, Try.ntmps4
  go_wp2_with fail
  refine (awake26 w).mono ?_
  rintro e w1 ⟨rfl, hb⟩
  have HM_1 := Lib.hid (HM_0.out.call hb)
  have HB_1 := Lib.hid hb
  clear hb HM_0
  go_wp2_with fail
  refine (size_any (cap := cap) HM_1.out 4).mono ?_
  rintro e w_ ⟨rfl, rfl⟩
  rw [HD.out]
  go_wp2_with fail
  go_ret
  exact ⟨rfl, HB_1.out⟩
set_option maxHeartbeats 4000000 in
theorem ikr_lo (md : Int) (h : szB xss 4) (h1 : md < 1) : Calls Try.prog 4 #[.slice A xss.length cap, .int .i64 md] w fun e w' => e = .returned (.bool true) ∧ Below w.heap.size w w' := by
  have HM_0 := Lib.hid hm
  have HD := Lib.hid (decide_eq_true h)
  obtain ⟨c, hc⟩ : ∃ c, rowL xss 0 = c := ⟨_, rfl⟩
  have HSH : Hid (shp xss = (c : Nat)) := by unfold shp; rw [if_pos h.1, hc]; exact rfl
  have HIM := Lib.hid h.1
  have hke : krE xss md = 2 := by unfold krE; rw [if_pos h.1, if_neg (by omega)]
  have HKE := Lib.hid hke
  have HKV : Hid (krV xss md = 0) := by unfold krV; rw [if_neg (by rw [hke]; decide)]; exact rfl
  have g1 : ¬ 7 < md := by omega
  clear hm h hc hke
  go_enter Try.func4, Try.ntmps4
  go_wp2_with fail
  refine (awake26 w).mono ?_
  rintro e w1 ⟨rfl, hb⟩
  have HM_1 := Lib.hid (HM_0.out.call hb)
  have HB_1 := Lib.hid hb
  clear hb HM_0
  go_wp2_with fail
  refine (size_any (cap := cap) HM_1.out 4).mono ?_
  rintro e w_ ⟨rfl, rfl⟩
  rw [HD.out, HSH.out]
  go_wp2_with fail
  refine (kernel_any (cap := cap) md HM_1.out).mono ?_
  rintro e w2 ⟨rfl, hb⟩
  have HM_2 := Lib.hid (HM_1.out.call hb)
  have HB_2 := Lib.hid (below_cons HB_1.out hb)
  rw [HKE.out, HKV.out]
  clear hb HM_1 HB_1
  go_wp2_with fail
  go_ret
  exact ⟨rfl, HB_2.out⟩
set_option maxHeartbeats 4000000 in
theorem ikr_hi (md : Int) (h : szB xss 4) (h1 : 1125899906842624 < md) : Calls Try.prog 4 #[.slice A xss.length cap, .int .i64 md] w fun e w' => e = .returned (.bool true) ∧ Below w.heap.size w w' := by
  have HM_0 := Lib.hid hm
  have HD := Lib.hid (decide_eq_true h)
  obtain ⟨c, hc⟩ : ∃ c, rowL xss 0 = c := ⟨_, rfl⟩
  have HSH : Hid (shp xss = (c : Nat)) := by unfold shp; rw [if_pos h.1, hc]; exact rfl
  have HIM := Lib.hid h.1
  have hke : krE xss md = 2 := by unfold krE; rw [if_pos h.1, if_neg (by omega)]
  have HKE := Lib.hid hke
  have HKV : Hid (krV xss md = 0) := by unfold krV; rw [if_neg (by rw [hke]; decide)]; exact rfl
  have g1 : 7 < md := by omega
  have g2 : ¬ md ≤ 1125899906842624 := by omega
  have g3 : ¬ md < 1 := by omega
  clear hm h hc hke
  go_enter Try.func4, Try.ntmps4
  go_wp2_with fail
  refine (awake26 w).mono ?_
  rintro e w1 ⟨rfl, hb⟩
  have HM_1 := Lib.hid (HM_0.out.call hb)
  have HB_1 := Lib.hid hb
  clear hb HM_0
  go_wp2_with fail
  refine (size_any (cap := cap) HM_1.out 4).mono ?_
  rintro e w_ ⟨rfl, rfl⟩
  rw [HD.out, HSH.out]
  go_wp2_with fail
  refine (kernel_any (cap := cap) md HM_1.out).mono ?_
  rintro e w2 ⟨rfl, hb⟩
  have HM_2 := Lib.hid (HM_1.out.call hb)
  have HB_2 := Lib.hid (below_cons HB_1.out hb)
  rw [HKE.out, HKV.out]
  clear hb HM_1 HB_1
  go_wp2_with fail
  go_ret
  exact ⟨rfl, HB_2.out⟩
set_option maxHeartbeats 4000000 in
theorem ikr_ns (q : Nat) (h : szB xss 4) (h1 : 1 ≤ q) (h7 : q ≤ 7) (hs : ¬ Sml xss) : Calls Try.prog 4 #[.slice A xss.length cap, .int .i64 (q : Nat)] w fun e w' => e = .returned (.bool true) ∧ Below w.heap.size w w' := by
  have HM_0 := Lib.hid hm
  have HD := Lib.hid (decide_eq_true h)
  obtain ⟨c, hc⟩ : ∃ c, rowL xss 0 = c := ⟨_, rfl⟩
  have HSH : Hid (shp xss = (c : Nat)) := by unfold shp; rw [if_pos h.1, hc]; exact rfl
  have HIM := Lib.hid h.1
  have g1 : ¬ (7 : Int) < (q : Nat) := by omega
  have g2 : ¬ ((q : Nat) : Int) < 1 := by omega
  have g3 : ¬ (1125899906842624 : Int) < (q : Nat) := by omega
  have hke : krE xss q = 9 := by unfold krE; rw [if_pos h.1, if_pos (by omega), if_neg hs]
  have HKE := Lib.hid hke
  have HKV : Hid (krV xss q = 0) := by unfold krV; rw [if_neg (by rw [hke]; decide)]; exact rfl
  have HSM := Lib.hid (decide_eq_false hs)
  clear hm h hc hke hs
  go_enter Try.func4, Try.ntmps4
  go_wp2_with fail
  refine (awake26 w).mono ?_
  rintro e w1 ⟨rfl, hb⟩
  have HM_1 := Lib.hid (HM_0.out.call hb)
  have HB_1 := Lib.hid hb
  clear hb HM_0
  go_wp2_with fail
  refine (size_any (cap := cap) HM_1.out 4).mono ?_
  rintro e w_ ⟨rfl, rfl⟩
  rw [HD.out, HSH.out]
  go_wp2_with fail
  refine (kernel_any (cap := cap) q HM_1.out).mono ?_
  rintro e w2 ⟨rfl, hb⟩
  have HM_2 := Lib.hid (HM_1.out.call hb)
  have HB_2 := Lib.hid (below_cons HB_1.out hb)
  rw [HKE.out, HKV.out]
  clear hb HM_1 HB_1
  go_wp2_with fail
  refine (rsmall_any (cap := cap) HM_2.out HIM.out false HSM.out).mono ?_
  rintro e w_ ⟨rfl, rfl⟩
  go_wp2_with fail
  go_ret
  exact ⟨rfl, HB_2.out⟩
set_option maxHeartbeats 4000000 in
theorem ikr_ok (q : Nat) (h : szB xss 4) (h1 : 1 ≤ q) (h7 : q ≤ 7) (hs : Sml xss) : Calls Try.prog 4 #[.slice A xss.length cap, .int .i64 (q : Nat)] w fun e w' => e = .returned (.bool true) ∧ Below w.heap.size w w' := by
  have HM_0 := Lib.hid hm
  have HD := Lib.hid (decide_eq_true h)
  obtain ⟨c, hc⟩ : ∃ c, rowL xss 0 = c := ⟨_, rfl⟩
  have HSH : Hid (shp xss = (c : Nat)) := by unfold shp; rw [if_pos h.1, hc]; exact rfl
  have HIM := Lib.hid h.1
  have g1 : ¬ (7 : Int) < (q : Nat) := by omega
  have g2 : ¬ ((q : Nat) : Int) < 1 := by omega
  have g3 : ¬ (1125899906842624 : Int) < (q : Nat) := by omega
  have HC := Lib.hid hc
  have hc4 : c ≤ 4 := by have := h.2.1; omega
  obtain ⟨n, hn⟩ : ∃ n, xss.length = n := ⟨_, rfl⟩
  obtain ⟨K, hK⟩ : ∃ K, kerN n c (eI xss) q = K := ⟨_, rfl⟩
  have hKl : K ≤ 2401 := by rw [← hK]; exact Nat.le_trans (cnt_le _ _) (pow_bound h7 (Nat.le_refl c) hc4)
  have hke : krE xss q = 0 := by unfold krE; rw [if_pos h.1, if_pos (by omega), if_pos hs, Int.toNat_natCast, hn, hc, hK, if_pos (by omega)]
  have HKE := Lib.hid hke
  have HKV : Hid (krV xss q = K) := by unfold krV; rw [if_pos hke, Int.toNat_natCast, hn, hc, hK]; exact rfl
  have HSM := Lib.hid (decide_eq_true hs)
  have HK := Lib.hid hK
  rw [hn] at HM_0 ⊢
  clear hm h hc hke hs hn hK
  go_enter Try.func4, Try.ntmps4
  go_wp2_with fail
  refine (awake26 w).mono ?_
  rintro e w1 ⟨rfl, hb⟩
  have HM_1 := Lib.hid (HM_0.out.call hb)
  have HB_1 := Lib.hid hb
  clear hb HM_0
  go_wp2_with fail
  refine (size_any (cap := cap) HM_1.out 4).mono ?_
  rintro e w_ ⟨rfl, rfl⟩
  rw [HD.out, HSH.out]
  go_wp2_with fail
  refine (kernel_any (cap := cap) q HM_1.out).mono ?_
  rintro e w2 ⟨rfl, hb⟩
  have HM_2 := Lib.hid (HM_1.out.call hb)
  have HB_2 := Lib.hid (below_cons HB_1.out hb)
  rw [HKE.out, HKV.out]
  clear hb HM_1 HB_1
  go_wp2_with fail
  refine (rsmall_any (cap := cap) HM_2.out HIM.out true HSM.out).mono ?_
  rintro e w_ ⟨rfl, rfl⟩
  go_wp2_with fail
  refine (rker_any (cap := cap) HM_2.out HIM.out HC.out hc4 h1 h7).mono ?_
  rintro e w3 ⟨rfl, hdn⟩
  rw [HK.out]
  have hb : Below w2.heap.size w2 w3 := by obtain ⟨nd, rfl⟩ := hdn; exact below_drewN (Below.refl _ _) nd
  have HM_3 := Lib.hid (HM_2.out.call hb)
  have HB_3 := Lib.hid (below_cons HB_2.out hb)
  clear hb hdn HM_2 HB_2
  go_wp2_with fail
  go_ret
  exact ⟨rfl, HB_3.out⟩
end
theorem intmatrixKernel_walk (A : Option Addr) (cap : Nat) (xss : List (List Int)) (md : Int) (w : World) (hm : AM w A xss.length xss) (_h1 : (Lit.int .i64 md).wf = true) : Calls Try.prog 4 #[.slice A xss.length cap, .int .i64 md] w fun e w' => e = .returned (.bool true) ∧ Below w.heap.size w w' := by
  by_cases h : szB xss 4
  · by_cases h1 : md < 1
    · exact ikr_lo A cap xss w hm md h h1
    · by_cases h2 : 1125899906842624 < md
      · exact ikr_hi A cap xss w hm md h h2
      · by_cases h3 : 7 < md
        · exact ikr_mid A cap xss w hm md h h3 (by omega)
        · obtain ⟨q, rfl⟩ : ∃ q : Nat, md = q := ⟨md.toNat, by omega⟩
          by_cases hs : Sml xss
          · exact ikr_ok A cap xss w hm q h (by omega) (by omega) hs
          · exact ikr_ns A cap xss w hm q h (by omega) (by omega) hs
  · exact ikr_no A cap xss w hm md h
end Go.Proofs.Ytjlokbolmindgaa

