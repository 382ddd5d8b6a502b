/-
  The law IntmatrixMinors, walked: the call returns true and writes nothing that was there.
-/
import Derived.Test.YtjlokbolmindgaaRSmith
namespace Go.Proofs.Ytjlokbolmindgaa
open Go.RowKit

section
variable (A : Option Addr) (cap : Nat) (xss : List (List Int)) (w : World) (hm : AM w A xss.length xss)
include hm
set_option maxHeartbeats 4000000 in
theorem imi_no (h : ¬ szB xss 4) : Calls Try.prog 6 #[.slice A xss.length cap] w fun e w' => e = .returned (.bool true) ∧ Below w.heap.size w w' := by
  have HM_0 := Lib.hid hm
  have HD := Lib.hid (decide_eq_false h)
  clear hm h
  go_enter Try.func6, Try.ntmps6
  go_wp2_with fail
  refine (awake26 w).mono ?_
  rintro e w1 ⟨rfl, hb⟩
  have HM_1 := Lib.hid (HM_0.out.call hb)
  have HB_1 := Lib.hid hb
  clear hb HM_0
  go_wp2_with fail
  refine (size_any (cap := cap) HM_1.out 4).mono ?_
  rintro e w_ ⟨rfl, rfl⟩
  rw [HD.out]
  go_wp2_with fail
  go_ret
  exact ⟨rfl, HB_1.out⟩
set_option maxHeartbeats 4000000 in
theorem imi_b1 (h : szB xss 4) (hs : ¬ Sml xss) (hq : rowL xss 0 = xss.length) : Calls Try.prog 6 #[.slice A xss.length cap] w fun e w' => e = .returned (.bool true) ∧ Below w.heap.size w w' := by
  have HM_0 := Lib.hid hm
  obtain ⟨n, hn⟩ : ∃ n, xss.length = n := ⟨_, rfl⟩
  obtain ⟨c, hc⟩ : ∃ c, rowL xss 0 = c := ⟨_, rfl⟩
  have HD := Lib.hid (decide_eq_true h)
  have HSH : Hid (shp xss = (c : Nat)) := by unfold shp; rw [if_pos h.1, hc]; exact rfl
  have HIM := Lib.hid h.1
  have hc4 : c ≤ 4 := by have := h.2.1; omega
  have hn4 : n ≤ 4 := by have := h.2.2; omega
  obtain ⟨d, hd⟩ := smD_ex xss
  have HSD := Lib.hid hd
  have hes := rkE_9 h.1 hs
  have HES := Lib.hid hes
  have HSL : Hid (smL xss d = []) := by unfold smL; rw [if_neg (by rw [hes]; decide)]; exact rfl
  have hed : dtE xss = 9 := by unfold dtE; rw [if_pos ⟨h.1, hq.symm⟩, if_neg hs]
  have HED : Hid (dtV xss = 0 ∧ dtE xss = 9) := ⟨by unfold dtV; rw [if_neg (by rw [hed]; decide)], hed⟩
  have HR0 : Hid (∀ r, rkR xss r → r = 0) := fun r hr => by
    unfold rkR at hr
    rwa [if_neg (by rw [hes]; decide)] at hr
  have HSM := Lib.hid (decide_eq_false hs)
  have hcn : ((c : Int) != (n : Int)) = false := by rw [bne_eq_false_iff_eq]; omega
  rw [hn] at HM_0 ⊢
  clear hm h hs hq hn hc hd hes hed
  go_enter Try.func6, Try.ntmps6
  go_wp2_with fail
  refine (awake26 w).mono ?_
  rintro e w1 ⟨rfl, hb⟩
  have HM_1 := Lib.hid (HM_0.out.call hb)
  have HB_1 := Lib.hid hb
  clear hb HM_0
  go_wp2_with fail
  refine (size_any (cap := cap) HM_1.out 4).mono ?_
  rintro e w_ ⟨rfl, rfl⟩
  rw [HD.out, HSH.out]
  go_wp2_with fail
  refine (det_any (cap := cap) HM_1.out).mono ?_
  rintro e w2 ⟨rfl, hb⟩
  have HM_2 := Lib.hid (HM_1.out.call hb)
  have HB_2 := Lib.hid (below_cons HB_1.out hb)
  rw [HED.out.1, HED.out.2]
  clear hb HM_1 HB_1
  go_wp2_with fail
  refine (rank_any (cap := cap) HM_2.out).mono ?_
  rintro e w3 ⟨r, rfl, hrk, hb⟩
  have HM_3 := Lib.hid (HM_2.out.call hb)
  have HB_3 := Lib.hid (below_cons HB_2.out hb)
  rw [HES.out]
  obtain rfl := HR0.out r hrk
  clear hb HM_2 HB_2
  clear hrk
  go_wp2_with fail
  refine (smith_any (cap := cap) HM_3.out HSD.out).mono ?_
  rintro e w4 ⟨V, rfl, hV, hb, -⟩
  have HM_4 := Lib.hid (HM_3.out.call hb)
  have HB_4 := Lib.hid (below_cons HB_3.out hb)
  rw [HSL.out] at hV
  obtain ⟨A2, c2, rfl, -⟩ := hV.shape
  rw [HES.out, List.length_nil]
  clear hV
  clear hb HM_3 HB_3
  go_wp2_with fail
  refine (rsmall_any (cap := cap) HM_4.out HIM.out false HSM.out).mono ?_
  rintro e w_ ⟨rfl, rfl⟩
  go_wp2_with fail
  go_ret
  exact ⟨rfl, HB_4.out⟩
set_option maxHeartbeats 4000000 in
theorem imi_b2 (h : szB xss 4) (hs : ¬ Sml xss) (hq : rowL xss 0 ≠ xss.length) : Calls Try.prog 6 #[.slice A xss.length cap] w fun e w' => e = .returned (.bool true) ∧ Below w.heap.size w w' := by
  have HM_0 := Lib.hid hm
  obtain ⟨n, hn⟩ : ∃ n, xss.length = n := ⟨_, rfl⟩
  obtain ⟨c, hc⟩ : ∃ c, rowL xss 0 = c := ⟨_, rfl⟩
  have HD := Lib.hid (decide_eq_true h)
  have HSH : Hid (shp xss = (c : Nat)) := by unfold shp; rw [if_pos h.1, hc]; exact rfl
  have HIM := Lib.hid h.1
  have hc4 : c ≤ 4 := by have := h.2.1; omega
  have hn4 : n ≤ 4 := by have := h.2.2; omega
  obtain ⟨d, hd⟩ := smD_ex xss
  have HSD := Lib.hid hd
  have hes := rkE_9 h.1 hs
  have HES := Lib.hid hes
  have HSL : Hid (smL xss d = []) := by unfold smL; rw [if_neg (by rw [hes]; decide)]; exact rfl
  have hed : dtE xss = 1 := by unfold dtE; rw [if_neg (fun e => hq e.2.symm)]
  have HED : Hid (dtV xss = 0 ∧ dtE xss = 1) := ⟨by unfold dtV; rw [if_neg (by rw [hed]; decide)], hed⟩
  have HR0 : Hid (∀ r, rkR xss r → r = 0) := fun r hr => by
    unfold rkR at hr
    rwa [if_neg (by rw [hes]; decide)] at hr
  have HSM := Lib.hid (decide_eq_false hs)
  have hcn : ((c : Int) != (n : Int)) = true := by rw [bne_iff_ne]; omega
  rw [hn] at HM_0 ⊢
  clear hm h hs hq hn hc hd hes hed
  go_enter Try.func6, Try.ntmps6
  go_wp2_with fail
  refine (awake26 w).mono ?_
  rintro e w1 ⟨rfl, hb⟩
  have HM_1 := Lib.hid (HM_0.out.call hb)
  have HB_1 := Lib.hid hb
  clear hb HM_0
  go_wp2_with fail
  refine (size_any (cap := cap) HM_1.out 4).mono ?_
  rintro e w_ ⟨rfl, rfl⟩
  rw [HD.out, HSH.out]
  go_wp2_with fail
  refine (det_any (cap := cap) HM_1.out).mono ?_
  rintro e w2 ⟨rfl, hb⟩
  have HM_2 := Lib.hid (HM_1.out.call hb)
  have HB_2 := Lib.hid (below_cons HB_1.out hb)
  rw [HED.out.1, HED.out.2]
  clear hb HM_1 HB_1
  go_wp2_with fail
  refine (rank_any (cap := cap) HM_2.out).mono ?_
  rintro e w3 ⟨r, rfl, hrk, hb⟩
  have HM_3 := Lib.hid (HM_2.out.call hb)
  have HB_3 := Lib.hid (below_cons HB_2.out hb)
  rw [HES.out]
  obtain rfl := HR0.out r hrk
  clear hb HM_2 HB_2
  clear hrk
  go_wp2_with fail
  refine (smith_any (cap := cap) HM_3.out HSD.out).mono ?_
  rintro e w4 ⟨V, rfl, hV, hb, -⟩
  have HM_4 := Lib.hid (HM_3.out.call hb)
  have HB_4 := Lib.hid (below_cons HB_3.out hb)
  rw [HSL.out] at hV
  obtain ⟨A2, c2, rfl, -⟩ := hV.shape
  rw [HES.out, List.length_nil]
  clear hV
  clear hb HM_3 HB_3
  go_wp2_with fail
  refine (rsmall_any (cap := cap) HM_4.out HIM.out false HSM.out).mono ?_
  rintro e w_ ⟨rfl, rfl⟩
  go_wp2_with fail
  go_ret
  exact ⟨rfl, HB_4.out⟩
set_option maxHeartbeats 8000000 in
theorem imi_ok1 (h : szB xss 4) (hs : Sml xss) (hq : rowL xss 0 = xss.length) : Calls Try.prog 6 #[.slice A xss.length cap] w fun e w' => e = .returned (.bool true) ∧ Below w.heap.size w w' := by
  have HM_0 := Lib.hid hm
  obtain ⟨n, hn⟩ : ∃ n, xss.length = n := ⟨_, rfl⟩
  obtain ⟨c, hc⟩ : ∃ c, rowL xss 0 = c := ⟨_, rfl⟩
  have HD := Lib.hid (decide_eq_true h)
  have HSH : Hid (shp xss = (c : Nat)) := by unfold shp; rw [if_pos h.1, hc]; exact rfl
  have HIM := Lib.hid h.1
  have hc4 : c ≤ 4 := by have := h.2.1; omega
  have hn4 : n ≤ 4 := by have := h.2.2; omega
  obtain ⟨d, hd⟩ := smD_ex xss
  have HSD := Lib.hid hd
  have hes := rkE_0 h.1 hs
  have HES := Lib.hid hes
  obtain ⟨p, hp⟩ : ∃ p, min n c = p := ⟨_, rfl⟩
  obtain ⟨LL, hLL⟩ : ∃ LL, (List.range p).map (fun j => (d j : Int)) = LL := ⟨_, rfl⟩
  have HLL := Lib.hid hLL
  have HP := Lib.hid hp
  have HSL : Hid (smL xss d = LL) := by unfold smL; rw [if_pos hes, hn, hc, hp]; exact hLL
  have HLM : Hid (LL.length ≤ maxLen) := by rw [← hLL]; show (List.map _ _).length ≤ maxLen; unfold maxLen; simp; omega
  have HRC : Hid (∀ i, i < n → rowL xss i = c) := fun i hi => by rw [h.1.1 i (by omega), hc]
  have HEQ : Hid (Eqv n c (eI xss) (dgM d)) := by have := hd.eq; rw [hn, hc] at this; exact this
  have HCH : Hid (Chain d p) := by have := hd.ch; rw [hn, hc, hp] at this; exact this
  have HBN : Hid (bndM n c (eI xss) ≤ 1125899906842624) := by have := hs.lt; rw [hn, hc] at this; exact this
  have HSI : Hid ((∃ r v, ElR xss.length (rowL xss 0) (eI xss) r v) → ∃ r, SmI n c r (eI xss) d) := by
    rintro ⟨r, v, hE⟩
    rw [hn, hc] at hE
    exact ⟨r, hE.smI HEQ.out (by rw [hp]; exact HCH.out)⟩
  have HRP : Hid (∀ r, rkR xss r → RkP n c (eI xss) r) := fun r h => by
    unfold rkR at h
    rw [if_pos hes, hn, hc] at h
    exact h
  have hed : dtE xss = 0 := by unfold dtE; rw [if_pos ⟨h.1, hq.symm⟩, if_pos hs]
  obtain rfl : c = n := by omega
  have HED : Hid (dtV xss = det c (eI xss) ∧ dtE xss = 0) := ⟨by unfold dtV; rw [if_pos hed, hn], hed⟩
  have HBD : Hid (bndM c c (eI xss) ≤ 1125899906842624) := HBN.out
  have HSM := Lib.hid (decide_eq_true hs)
  rw [hn] at HM_0 ⊢
  clear hm h hs hq hn hc hd hes hed hp hLL
  go_enter Try.func6, Try.ntmps6
  go_wp2_with fail
  refine (awake26 w).mono ?_
  rintro e w1 ⟨rfl, hb⟩
  have HM_1 := Lib.hid (HM_0.out.call hb)
  have HB_1 := Lib.hid hb
  clear hb HM_0
  go_wp2_with fail
  refine (size_any (cap := cap) HM_1.out 4).mono ?_
  rintro e w_ ⟨rfl, rfl⟩
  rw [HD.out, HSH.out]
  go_wp2_with fail
  refine (det_any (cap := cap) HM_1.out).mono ?_
  rintro e w2 ⟨rfl, hb⟩
  have HM_2 := Lib.hid (HM_1.out.call hb)
  have HB_2 := Lib.hid (below_cons HB_1.out hb)
  rw [HED.out.1, HED.out.2]
  clear hb HM_1 HB_1
  go_wp2_with fail
  refine (rank_any (cap := cap) HM_2.out).mono ?_
  rintro e w3 ⟨r, rfl, hrk, hb⟩
  have HM_3 := Lib.hid (HM_2.out.call hb)
  have HB_3 := Lib.hid (below_cons HB_2.out hb)
  rw [HES.out]
  clear hb HM_2 HB_2
  have HRK := Lib.hid hrk
  clear hrk
  go_wp2_with fail
  refine (smith_any (cap := cap) HM_3.out HSD.out).mono ?_
  rintro e w4 ⟨V, rfl, hV, hb, hE⟩
  have HM_4 := Lib.hid (HM_3.out.call hb)
  have HB_4 := Lib.hid (below_cons HB_3.out hb)
  rw [HSL.out] at hV
  obtain ⟨A2, c2, rfl, -, -, hri⟩ := hV.reads
  have HRS_4 : Hid (RI w4 (· < w4.heap.size) A2 LL) := hri.imp fun _ h => h.2
  obtain ⟨r0, hsi⟩ := HSI.out (hE HES.out)
  obtain rfl : r = r0 := RkP.uniq (HRP.out r HRK.out) hsi.rk
  have HSMI := Lib.hid hsi
  rw [HES.out]
  clear hV hri hE hsi
  clear hb HM_3 HB_3
  go_wp2_with fail
  refine (rsmall_any (cap := cap) HM_4.out HIM.out true HSM.out).mono ?_
  rintro e w_ ⟨rfl, rfl⟩
  go_wp2_with fail
  refine (rdet_any c w4 A cap xss (by omega) HM_4.out HRC.out HBD.out).mono ?_
  rintro e w5 ⟨rfl, hb⟩
  have HM_5 := Lib.hid (HM_4.out.call hb)
  have HRS_5 := Lib.hid (HRS_4.out.call hb)
  have HB_5 := Lib.hid (below_cons HB_4.out hb)
  clear hb HM_4 HRS_4 HB_4
  go_wp2_with fail
  refine (rrank_any (cap := cap) HM_5.out HRC.out hn4 hc4 HP.out HEQ.out HCH.out HSMI.out HBN.out).mono ?_
  rintro e w6 ⟨rfl, hb⟩
  have HM_6 := Lib.hid (HM_5.out.call hb)
  have HRS_6 := Lib.hid (HRS_5.out.call hb)
  have HB_6 := Lib.hid (below_cons HB_5.out hb)
  clear hb HM_5 HRS_5 HB_5
  go_wp2_with fail
  refine (rsmith_any (cap := cap) HM_6.out HRC.out hn4 hc4 HP.out HEQ.out HCH.out HSMI.out HBN.out).mono ?_
  rintro e w7 ⟨V2, rfl, hV, hb⟩
  have HM_7 := Lib.hid (HM_6.out.call hb)
  have HRS_7 := Lib.hid (HRS_6.out.call hb)
  have HB_7 := Lib.hid (below_cons HB_6.out hb)
  rw [HLL.out] at hV
  obtain ⟨A3, c3, rfl, -, -, hri⟩ := hV.reads
  have HRT_7 : Hid (RI w7 (· < w7.heap.size) A3 LL) := hri.imp fun _ h => h.2
  clear hV hri
  clear hb HM_6 HRS_6 HB_6
  go_wp2_with fail
  refine (sequal_any A2 A3 c2 c3 LL LL w7 _ _ HRS_7.out HRT_7.out HLM.out HLM.out).mono ?_
  rintro e w8 ⟨rfl, hdn⟩
  have hb : Below w7.heap.size w7 w8 := by obtain ⟨nd, rfl⟩ := hdn; exact below_drewN (Below.refl _ _) nd
  have HM_8 := Lib.hid (HM_7.out.call hb)
  have HRS_8 := Lib.hid (HRS_7.out.call hb)
  have HB_8 := Lib.hid (below_cons HB_7.out hb)
  rw [decide_eq_true (rfl : LL = LL)]
  clear hb hdn HM_7 HRS_7 HB_7
  go_wp2_with fail
  go_ret
  exact ⟨rfl, HB_8.out⟩
set_option maxHeartbeats 8000000 in
theorem imi_ok2 (h : szB xss 4) (hs : Sml xss) (hq : rowL xss 0 ≠ xss.length) : Calls Try.prog 6 #[.slice A xss.length cap] w fun e w' => e = .returned (.bool true) ∧ Below w.heap.size w w' := by
  have HM_0 := Lib.hid hm
  obtain ⟨n, hn⟩ : ∃ n, xss.length = n := ⟨_, rfl⟩
  obtain ⟨c, hc⟩ : ∃ c, rowL xss 0 = c := ⟨_, rfl⟩
  have HD := Lib.hid (decide_eq_true h)
  have HSH : Hid (shp xss = (c : Nat)) := by unfold shp; rw [if_pos h.1, hc]; exact rfl
  have HIM := Lib.hid h.1
  have hc4 : c ≤ 4 := by have := h.2.1; omega
  have hn4 : n ≤ 4 := by have := h.2.2; omega
  obtain ⟨d, hd⟩ := smD_ex xss
  have HSD := Lib.hid hd
  have hes := rkE_0 h.1 hs
  have HES := Lib.hid hes
  obtain ⟨p, hp⟩ : ∃ p, min n c = p := ⟨_, rfl⟩
  obtain ⟨LL, hLL⟩ : ∃ LL, (List.range p).map (fun j => (d j : Int)) = LL := ⟨_, rfl⟩
  have HLL := Lib.hid hLL
  have HP := Lib.hid hp
  have HSL : Hid (smL xss d = LL) := by unfold smL; rw [if_pos hes, hn, hc, hp]; exact hLL
  have HLM : Hid (LL.length ≤ maxLen) := by rw [← hLL]; show (List.map _ _).length ≤ maxLen; unfold maxLen; simp; omega
  have HRC : Hid (∀ i, i < n → rowL xss i = c) := fun i hi => by rw [h.1.1 i (by omega), hc]
  have HEQ : Hid (Eqv n c (eI xss) (dgM d)) := by have := hd.eq; rw [hn, hc] at this; exact this
  have HCH : Hid (Chain d p) := by have := hd.ch; rw [hn, hc, hp] at this; exact this
  have HBN : Hid (bndM n c (eI xss) ≤ 1125899906842624) := by have := hs.lt; rw [hn, hc] at this; exact this
  have HSI : Hid ((∃ r v, ElR xss.length (rowL xss 0) (eI xss) r v) → ∃ r, SmI n c r (eI xss) d) := by
    rintro ⟨r, v, hE⟩
    rw [hn, hc] at hE
    exact ⟨r, hE.smI HEQ.out (by rw [hp]; exact HCH.out)⟩
  have HRP : Hid (∀ r, rkR xss r → RkP n c (eI xss) r) := fun r h => by
    unfold rkR at h
    rw [if_pos hes, hn, hc] at h
    exact h
  have hed : dtE xss = 1 := by unfold dtE; rw [if_neg (fun e => hq e.2.symm)]
  have HED : Hid (dtV xss = 0 ∧ dtE xss = 1) := ⟨by unfold dtV; rw [if_neg (by rw [hed]; decide)], hed⟩
  have hcn : ((c : Int) != (n : Int)) = true := by rw [bne_iff_ne]; omega
  have HSM := Lib.hid (decide_eq_true hs)
  rw [hn] at HM_0 ⊢
  clear hm h hs hq hn hc hd hes hed hp hLL
  go_enter Try.func6, Try.ntmps6
  go_wp2_with fail
  refine (awake26 w).mono ?_
  rintro e w1 ⟨rfl, hb⟩
  have HM_1 := Lib.hid (HM_0.out.call hb)
  have HB_1 := Lib.hid hb
  clear hb HM_0
  go_wp2_with fail
  refine (size_any (cap := cap) HM_1.out 4).mono ?_
  rintro e w_ ⟨rfl, rfl⟩
  rw [HD.out, HSH.out]
  go_wp2_with fail
  refine (det_any (cap := cap) HM_1.out).mono ?_
  rintro e w2 ⟨rfl, hb⟩
  have HM_2 := Lib.hid (HM_1.out.call hb)
  have HB_2 := Lib.hid (below_cons HB_1.out hb)
  rw [HED.out.1, HED.out.2]
  clear hb HM_1 HB_1
  go_wp2_with fail
  refine (rank_any (cap := cap) HM_2.out).mono ?_
  rintro e w3 ⟨r, rfl, hrk, hb⟩
  have HM_3 := Lib.hid (HM_2.out.call hb)
  have HB_3 := Lib.hid (below_cons HB_2.out hb)
  rw [HES.out]
  clear hb HM_2 HB_2
  have HRK := Lib.hid hrk
  clear hrk
  go_wp2_with fail
  refine (smith_any (cap := cap) HM_3.out HSD.out).mono ?_
  rintro e w4 ⟨V, rfl, hV, hb, hE⟩
  have HM_4 := Lib.hid (HM_3.out.call hb)
  have HB_4 := Lib.hid (below_cons HB_3.out hb)
  rw [HSL.out] at hV
  obtain ⟨A2, c2, rfl, -, -, hri⟩ := hV.reads
  have HRS_4 : Hid (RI w4 (· < w4.heap.size) A2 LL) := hri.imp fun _ h => h.2
  obtain ⟨r0, hsi⟩ := HSI.out (hE HES.out)
  obtain rfl : r = r0 := RkP.uniq (HRP.out r HRK.out) hsi.rk
  have HSMI := Lib.hid hsi
  rw [HES.out]
  clear hV hri hE hsi
  clear hb HM_3 HB_3
  go_wp2_with fail
  refine (rsmall_any (cap := cap) HM_4.out HIM.out true HSM.out).mono ?_
  rintro e w_ ⟨rfl, rfl⟩
  go_wp2_with fail
  refine (rrank_any (cap := cap) HM_4.out HRC.out hn4 hc4 HP.out HEQ.out HCH.out HSMI.out HBN.out).mono ?_
  rintro e w5 ⟨rfl, hb⟩
  have HM_5 := Lib.hid (HM_4.out.call hb)
  have HRS_5 := Lib.hid (HRS_4.out.call hb)
  have HB_5 := Lib.hid (below_cons HB_4.out hb)
  clear hb HM_4 HRS_4 HB_4
  go_wp2_with fail
  refine (rsmith_any (cap := cap) HM_5.out HRC.out hn4 hc4 HP.out HEQ.out HCH.out HSMI.out HBN.out).mono ?_
  rintro e w6 ⟨V2, rfl, hV, hb⟩
  have HM_6 := Lib.hid (HM_5.out.call hb)
  have HRS_6 := Lib.hid (HRS_5.out.call hb)
  have HB_6 := Lib.hid (below_cons HB_5.out hb)
  rw [HLL.out] at hV
  obtain ⟨A3, c3, rfl, -, -, hri⟩ := hV.reads
  have HRT_6 : Hid (RI w6 (· < w6.heap.size) A3 LL) := hri.imp fun _ h => h.2
  clear hV hri
  clear hb HM_5 HRS_5 HB_5
  go_wp2_with fail
  refine (sequal_any A2 A3 c2 c3 LL LL w6 _ _ HRS_6.out HRT_6.out HLM.out HLM.out).mono ?_
  rintro e w7 ⟨rfl, hdn⟩
  have hb : Below w6.heap.size w6 w7 := by obtain ⟨nd, rfl⟩ := hdn; exact below_drewN (Below.refl _ _) nd
  have HM_7 := Lib.hid (HM_6.out.call hb)
  have HRS_7 := Lib.hid (HRS_6.out.call hb)
  have HB_7 := Lib.hid (below_cons HB_6.out hb)
  rw [decide_eq_true (rfl : LL = LL)]
  clear hb hdn HM_6 HRS_6 HB_6
  go_wp2_with fail
  go_ret
  exact ⟨rfl, HB_7.out⟩
theorem intmatrixMinors_walk : Calls Try.prog 6 #[.slice A xss.length cap] w fun e w' => e = .returned (.bool true) ∧ Below w.heap.size w w' := by
  by_cases h : szB xss 4
  · by_cases hs : Sml xss
    · by_cases hq : rowL xss 0 = xss.length
      · exact imi_ok1 A cap xss w hm h hs hq
      · exact imi_ok2 A cap xss w hm h hs hq
    · by_cases hq : rowL xss 0 = xss.length
      · exact imi_b1 A cap xss w hm h hs hq
      · exact imi_b2 A cap xss w hm h hs hq
  · exact imi_no A cap xss w hm h
end
end Go.Proofs.Ytjlokbolmindgaa

