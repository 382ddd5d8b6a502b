/-
  The law IntmatrixTransposes, walked: the call returns true and writes nothing that was there.
-/
import Derived.Test.YtjlokbolmindgaaRTr
namespace Go.Proofs.Ytjlokbolmindgaa
open Go.RowKit

section
variable (A : Option Addr) (cap : Nat) (xss : List (List Int)) (w : World) (hm : AM w A xss.length xss)
include hm
set_option maxHeartbeats 4000000 in
theorem itr_no (h : ¬ szB xss 12) : Calls Try.prog 8 #[.slice A xss.length cap] w fun e w' => e = .returned (.bool true) ∧ Below w.heap.size w w' := by
  have HM_0 := Lib.hid hm
  have HD := Lib.hid (decide_eq_false h)
  clear hm h
  go_enter Try.func8, Try.ntmps8
  go_wp2_with fail
  refine (awake26 w).mono ?_
  rintro e w1 ⟨rfl, hb⟩
  have HM_1 := Lib.hid (HM_0.out.call hb)
  have HB_1 := Lib.hid hb
  clear hb HM_0
  go_wp2_with fail
  refine (size_any (cap := cap) HM_1.out 12).mono ?_
  rintro e w_ ⟨rfl, rfl⟩
  rw [HD.out]
  go_wp2_with fail
  go_ret
  exact ⟨rfl, HB_1.out⟩
set_option maxHeartbeats 4000000 in
theorem itr_zero (h : szB xss 12) (h0 : rowL xss 0 = 0) : Calls Try.prog 8 #[.slice A xss.length cap] w fun e w' => e = .returned (.bool true) ∧ Below w.heap.size w w' := by
  have HM_0 := Lib.hid hm
  have HD := Lib.hid (decide_eq_true h)
  have HS : Hid (shp xss = 0) := by unfold shp; rw [if_pos h.1, h0]; exact rfl
  clear hm h h0
  go_enter Try.func8, Try.ntmps8
  go_wp2_with fail
  refine (awake26 w).mono ?_
  rintro e w1 ⟨rfl, hb⟩
  have HM_1 := Lib.hid (HM_0.out.call hb)
  have HB_1 := Lib.hid hb
  clear hb HM_0
  go_wp2_with fail
  refine (size_any (cap := cap) HM_1.out 12).mono ?_
  rintro e w_ ⟨rfl, rfl⟩
  rw [HD.out, HS.out]
  go_wp2_with fail
  go_ret
  exact ⟨rfl, HB_1.out⟩
set_option maxHeartbeats 4000000 in
theorem itr_ns (h : szB xss 12) (h0 : rowL xss 0 ≠ 0) (hs : ¬ Sml xss) : Calls Try.prog 8 #[.slice A xss.length cap] w fun e w' => e = .returned (.bool true) ∧ Below w.heap.size w w' := by
  have HM_0 := Lib.hid hm
  obtain ⟨n, hn⟩ : ∃ n, xss.length = n := ⟨_, rfl⟩
  obtain ⟨c, hc⟩ : ∃ c, rowL xss 0 = c := ⟨_, rfl⟩
  have HD := Lib.hid (decide_eq_true h)
  have HSH : Hid (shp xss = (c : Nat)) := by unfold shp; rw [if_pos h.1, hc]; exact rfl
  have HIM := Lib.hid h.1
  have HC := Lib.hid hc
  have hc12 : c ≤ 12 := by have := h.2.1; omega
  have hn12 : n ≤ 12 := by have := h.2.2; omega
  have hc0 : ((c : Int) == 0) = false := by rw [beq_eq_false_iff_ne]; omega
  have HSM := Lib.hid (decide_eq_false hs)
  rw [hn] at HM_0 ⊢
  clear hm h h0 hs hn hc
  go_enter Try.func8, Try.ntmps8
  go_wp2_with fail
  refine (awake26 w).mono ?_
  rintro e w1 ⟨rfl, hb⟩
  have HM_1 := Lib.hid (HM_0.out.call hb)
  have HB_1 := Lib.hid hb
  clear hb HM_0
  go_wp2_with fail
  refine (size_any (cap := cap) HM_1.out 12).mono ?_
  rintro e w_ ⟨rfl, rfl⟩
  rw [HD.out, HSH.out]
  go_wp2_with fail
  refine (rsmall_any (cap := cap) HM_1.out HIM.out false HSM.out).mono ?_
  rintro e w_ ⟨rfl, rfl⟩
  go_wp2_with fail
  go_ret
  exact ⟨rfl, HB_1.out⟩
set_option maxHeartbeats 4000000 in
theorem itr_nt (h : szB xss 12) (h0 : rowL xss 0 ≠ 0) (hs : Sml xss) (ht : ¬ Sml (trL xss xss.length (rowL xss 0))) : Calls Try.prog 8 #[.slice A xss.length cap] w fun e w' => e = .returned (.bool true) ∧ Below w.heap.size w w' := by
  have HM_0 := Lib.hid hm
  obtain ⟨n, hn⟩ : ∃ n, xss.length = n := ⟨_, rfl⟩
  obtain ⟨c, hc⟩ : ∃ c, rowL xss 0 = c := ⟨_, rfl⟩
  have HD := Lib.hid (decide_eq_true h)
  have HSH : Hid (shp xss = (c : Nat)) := by unfold shp; rw [if_pos h.1, hc]; exact rfl
  have HIM := Lib.hid h.1
  have HC := Lib.hid hc
  have hc12 : c ≤ 12 := by have := h.2.1; omega
  have hn12 : n ≤ 12 := by have := h.2.2; omega
  have hc0 : ((c : Int) == 0) = false := by rw [beq_eq_false_iff_ne]; omega
  have HIT : Hid (IsM (trL xss n c)) := trL_IsM (by omega) (by omega)
  rw [hn] at HM_0
  have HSM := Lib.hid (decide_eq_true hs)
  rw [hn, hc] at ht
  rw [hn]
  have HST := Lib.hid (decide_eq_false ht)
  clear hm h h0 hs ht hn hc
  go_enter Try.func8, Try.ntmps8
  go_wp2_with fail
  refine (awake26 w).mono ?_
  rintro e w1 ⟨rfl, hb⟩
  have HM_1 := Lib.hid (HM_0.out.call hb)
  have HB_1 := Lib.hid hb
  clear hb HM_0
  go_wp2_with fail
  refine (size_any (cap := cap) HM_1.out 12).mono ?_
  rintro e w_ ⟨rfl, rfl⟩
  rw [HD.out, HSH.out]
  go_wp2_with fail
  refine (rsmall_any (cap := cap) HM_1.out HIM.out true HSM.out).mono ?_
  rintro e w_ ⟨rfl, rfl⟩
  go_wp2_with fail
  refine (rtr_am (cap := cap) HM_1.out HIM.out HC.out).mono ?_
  rintro e w2 ⟨AT, cT, rfl, hT, hb⟩
  have HM_2 := Lib.hid (HM_1.out.call hb)
  have HB_2 := Lib.hid (below_cons HB_1.out hb)
  have HT_2 := Lib.hid hT
  clear hT
  clear hb HM_1 HB_1
  go_wp2_with fail
  refine (rsmall_any (cap := cT) HT_2.out HIT.out false HST.out).mono ?_
  rintro e w_ ⟨rfl, rfl⟩
  go_wp2_with fail
  go_ret
  exact ⟨rfl, HB_2.out⟩
set_option maxHeartbeats 8000000 in
theorem itr_ok (h : szB xss 12) (h0 : rowL xss 0 ≠ 0) (hs : Sml xss) (ht : Sml (trL xss xss.length (rowL xss 0))) : Calls Try.prog 8 #[.slice A xss.length cap] w fun e w' => e = .returned (.bool true) ∧ Below w.heap.size w w' := by
  have HM_0 := Lib.hid hm
  obtain ⟨n, hn⟩ : ∃ n, xss.length = n := ⟨_, rfl⟩
  obtain ⟨c, hc⟩ : ∃ c, rowL xss 0 = c := ⟨_, rfl⟩
  have HD := Lib.hid (decide_eq_true h)
  have HSH : Hid (shp xss = (c : Nat)) := by unfold shp; rw [if_pos h.1, hc]; exact rfl
  have HIM := Lib.hid h.1
  have HC := Lib.hid hc
  have hc12 : c ≤ 12 := by have := h.2.1; omega
  have hn12 : n ≤ 12 := by have := h.2.2; omega
  have hc0 : ((c : Int) == 0) = false := by rw [beq_eq_false_iff_ne]; omega
  have HIT : Hid (IsM (trL xss n c)) := trL_IsM (by omega) (by omega)
  rw [hn] at HM_0
  have HSM := Lib.hid (decide_eq_true hs)
  obtain ⟨d, hd⟩ := smD_ex xss
  have HSD := Lib.hid hd
  rw [hn, hc] at ht
  rw [hn]
  have HST := Lib.hid (decide_eq_true ht)
  have HSDT := Lib.hid (trD hd hn hc (by omega))
  have hes := rkE_0 h.1 hs
  have hep := rkE_0 HIT.out ht
  have HES := Lib.hid hes
  have HEP := Lib.hid hep
  obtain ⟨LL, hLL⟩ : ∃ LL, (List.range (min n c)).map (fun j => (d j : Int)) = LL := ⟨_, rfl⟩
  have HLS : Hid (smL xss d = LL) := by unfold smL; rw [if_pos hes, hn, hc]; exact hLL
  have HLP : Hid (smL (trL xss n c) d = LL) := by unfold smL; rw [if_pos hep, trL_len, trL_rowL (by omega), Nat.min_comm]; exact hLL
  obtain ⟨ll, hll⟩ : ∃ ll, LL.length = ll := ⟨_, rfl⟩
  have HLL := Lib.hid (show LL.length = LL.length from rfl)
  have HLM : Hid (LL.length ≤ maxLen) := by rw [← hLL]; show (List.map _ _).length ≤ maxLen; unfold maxLen; simp; omega
  have HRK : Hid (∀ r, rkR xss r → RkP n c (eI xss) r) := fun r h => by
    unfold rkR at h
    rw [if_pos hes, hn, hc] at h
    exact h
  have HRT : Hid (∀ r, rkR (trL xss n c) r → RkP c n (eI (trL xss n c)) r) := fun r h => by
    unfold rkR at h
    rw [if_pos hep, trL_len, trL_rowL (by omega)] at h
    exact h
  have HDE : Hid (n = c → dtE xss = 0 ∧ dtE (trL xss n c) = 0 ∧ dtV (trL xss n c) = det n (eI (trL xss n c)) ∧ dtV xss = det n (eI xss)) := fun e => by
    have h1 : dtE xss = 0 := by unfold dtE; rw [if_pos ⟨h.1, by omega⟩, if_pos hs]
    have h2 : dtE (trL xss n c) = 0 := by unfold dtE; rw [if_pos ⟨HIT.out, by rw [trL_len, trL_rowL (by omega)]; exact e.symm⟩, if_pos ht]
    refine ⟨h1, h2, ?_, ?_⟩
    · unfold dtV
      rw [if_pos h2, trL_len, e]
    · unfold dtV
      rw [if_pos h1, hn]
  clear hm h h0 hs ht hn hc hd hes hep hLL hll ll
  go_enter Try.func8, Try.ntmps8
  go_wp2_with fail
  refine (awake26 w).mono ?_
  rintro e w1 ⟨rfl, hb⟩
  have HM_1 := Lib.hid (HM_0.out.call hb)
  have HB_1 := Lib.hid hb
  clear hb HM_0
  go_wp2_with fail
  refine (size_any (cap := cap) HM_1.out 12).mono ?_
  rintro e w_ ⟨rfl, rfl⟩
  rw [HD.out, HSH.out]
  go_wp2_with fail
  refine (rsmall_any (cap := cap) HM_1.out HIM.out true HSM.out).mono ?_
  rintro e w_ ⟨rfl, rfl⟩
  go_wp2_with fail
  refine (rtr_am (cap := cap) HM_1.out HIM.out HC.out).mono ?_
  rintro e w2 ⟨AT, cT, rfl, hT, hb⟩
  have HM_2 := Lib.hid (HM_1.out.call hb)
  have HB_2 := Lib.hid (below_cons HB_1.out hb)
  have HT_2 := Lib.hid hT
  clear hT
  clear hb HM_1 HB_1
  go_wp2_with fail
  refine (rsmall_any (cap := cT) HT_2.out HIT.out true HST.out).mono ?_
  rintro e w_ ⟨rfl, rfl⟩
  go_wp2_with fail
  refine (rtr_am (cap := cap) HM_2.out HIM.out HC.out).mono ?_
  rintro e w3 ⟨AU, cU, rfl, hT, hb⟩
  have HM_3 := Lib.hid (HM_2.out.call hb)
  have HB_3 := Lib.hid (below_cons HB_2.out hb)
  have HU_3 := Lib.hid hT
  clear hT
  clear hb HM_2 HB_2
  go_wp2_with fail
  refine (smith_any (cap := cap) HM_3.out HSD.out).mono ?_
  rintro e w4 ⟨V, rfl, hV, hb, -⟩
  have HM_4 := Lib.hid (HM_3.out.call hb)
  have HU_4 := Lib.hid (HU_3.out.call hb)
  have HB_4 := Lib.hid (below_cons HB_3.out hb)
  rw [HLS.out] at hV
  obtain ⟨AS, cS, rfl, -, -, hri⟩ := hV.reads
  have HRS_4 : Hid (RI w4 (· < w4.heap.size) AS LL) := hri.imp fun _ h => h.2
  rw [HES.out]
  clear hV hri
  clear hb HM_3 HU_3 HB_3
  go_wp2_with fail
  refine (smith_any (cap := cU) HU_4.out HSDT.out).mono ?_
  rintro e w5 ⟨V, rfl, hV, hb, -⟩
  have HM_5 := Lib.hid (HM_4.out.call hb)
  have HU_5 := Lib.hid (HU_4.out.call hb)
  have HRS_5 := Lib.hid (HRS_4.out.call hb)
  have HB_5 := Lib.hid (below_cons HB_4.out hb)
  rw [HLP.out] at hV
  obtain ⟨AP, cP, rfl, -, -, hri⟩ := hV.reads
  have HRP_5 : Hid (RI w5 (· < w5.heap.size) AP LL) := hri.imp fun _ h => h.2
  rw [HEP.out]
  clear hV hri
  clear hb HM_4 HU_4 HRS_4 HB_4
  go_wp2_with fail
  refine (rank_any (cap := cap) HM_5.out).mono ?_
  rintro e w6 ⟨r, rfl, hrk, hb⟩
  have HM_6 := Lib.hid (HM_5.out.call hb)
  have HU_6 := Lib.hid (HU_5.out.call hb)
  have HRS_6 := Lib.hid (HRS_5.out.call hb)
  have HRP_6 := Lib.hid (HRP_5.out.call hb)
  have HB_6 := Lib.hid (below_cons HB_5.out hb)
  rw [HES.out]
  have hr1 := hrk
  clear hb HM_5 HU_5 HRS_5 HRP_5 HB_5
  clear hrk
  have HR1 := Lib.hid (HRK.out _ hr1)
  clear hr1
  go_wp2_with fail
  refine (rank_any (cap := cU) HU_6.out).mono ?_
  rintro e w7 ⟨q, rfl, hrk, hb⟩
  have HM_7 := Lib.hid (HM_6.out.call hb)
  have HU_7 := Lib.hid (HU_6.out.call hb)
  have HRS_7 := Lib.hid (HRS_6.out.call hb)
  have HRP_7 := Lib.hid (HRP_6.out.call hb)
  have HB_7 := Lib.hid (below_cons HB_6.out hb)
  rw [HEP.out]
  have hr2 := hrk
  clear hb HM_6 HU_6 HRS_6 HRP_6 HB_6
  clear hrk
  obtain rfl : r = q := RkP.uniq (trRk HR1.out) (HRT.out _ hr2)
  clear hr2
  go_wp2_with fail
  refine (sequal_any AS AP cS cP LL LL w7 _ _ HRS_7.out HRP_7.out HLM.out HLM.out).mono ?_
  rintro e w8 ⟨rfl, hdn⟩
  have hb : Below w7.heap.size w7 w8 := by obtain ⟨nd, rfl⟩ := hdn; exact below_drewN (Below.refl _ _) nd
  have HM_8 := Lib.hid (HM_7.out.call hb)
  have HU_8 := Lib.hid (HU_7.out.call hb)
  have HRS_8 := Lib.hid (HRS_7.out.call hb)
  have HRP_8 := Lib.hid (HRP_7.out.call hb)
  have HB_8 := Lib.hid (below_cons HB_7.out hb)
  rw [decide_eq_true (rfl : LL = LL)]
  clear hb hdn HM_7 HU_7 HRS_7 HRP_7 HB_7
  by_cases hnc : n = c
  · subst hnc
    have HDT := Lib.hid (HDE.out rfl)
    have hx : dtV (trL xss n n) = dtV xss := by rw [HDT.out.2.2.1, HDT.out.2.2.2, trDet]
    have HX := Lib.hid hx
    clear hx HDE
    go_wp2_with fail
    refine (det_any (cap := cap) HM_8.out).mono ?_
    rintro e w9 ⟨rfl, hb⟩
    have HM_9 := Lib.hid (HM_8.out.call hb)
    have HU_9 := Lib.hid (HU_8.out.call hb)
    have HRS_9 := Lib.hid (HRS_8.out.call hb)
    have HRP_9 := Lib.hid (HRP_8.out.call hb)
    have HB_9 := Lib.hid (below_cons HB_8.out hb)
    rw [HDT.out.1]
    clear hb HM_8 HU_8 HRS_8 HRP_8 HB_8
    go_wp2_with fail
    refine (det_any (cap := cU) HU_9.out).mono ?_
    rintro e w10 ⟨rfl, hb⟩
    have HM_10 := Lib.hid (HM_9.out.call hb)
    have HU_10 := Lib.hid (HU_9.out.call hb)
    have HRS_10 := Lib.hid (HRS_9.out.call hb)
    have HRP_10 := Lib.hid (HRP_9.out.call hb)
    have HB_10 := Lib.hid (below_cons HB_9.out hb)
    rw [HDT.out.2.1, HX.out]
    clear hb HM_9 HU_9 HRS_9 HRP_9 HB_9
    go_wp2_with fail
    go_ret
    exact ⟨rfl, HB_10.out⟩
  · have hnc' : ((n : Int) != (c : Int)) = true := by rw [bne_iff_ne]; omega
    clear hnc
    go_wp2_with fail
    go_ret
    exact ⟨rfl, HB_8.out⟩
theorem intmatrixTransposes_walk : Calls Try.prog 8 #[.slice A xss.length cap] w fun e w' => e = .returned (.bool true) ∧ Below w.heap.size w w' := by
  by_cases h : szB xss 12
  · by_cases h0 : rowL xss 0 = 0
    · exact itr_zero A cap xss w hm h h0
    · by_cases hs : Sml xss
      · by_cases ht : Sml (trL xss xss.length (rowL xss 0))
        · exact itr_ok A cap xss w hm h h0 hs ht
        · exact itr_nt A cap xss w hm h h0 hs ht
      · exact itr_ns A cap xss w hm h h0 hs
  · exact itr_no A cap xss w hm h
end
end Go.Proofs.Ytjlokbolmindgaa

