/-
  The law SignatureCongruent, walked: the call returns true and writes nothing that was there.
-/
import Derived.Test.YteanhbldhaiekaaCong
import Derived.Test.YteanhbldhaiekaaRMul
namespace Go.Proofs.Yteanhbldhaiekaa
open Go.RowKit

section
variable {xa xb : List (List Int)}
theorem cg_1 (h : CgA xa xb) : mlE (tpM xb) xa = 0 ∨ mlE (tpM xb) xa = 9 := by
  obtain ⟨h1, h2, h3, h4⟩ := h
  have e : IsM (tpM xb) ∧ IsM xa ∧ rowL (tpM xb) 0 = xa.length := by
    refine ⟨trL_IsM h2.2.1 h2.2.2, h1, ?_⟩
    rcases Nat.eq_zero_or_pos xa.length with h0 | h0
    · rw [tpM_nil (by omega), h0]; rfl
    · unfold tpM
      rw [trL_rowL (h4 h0).2, h3]
  unfold mlE
  rw [if_pos e]
  split
  · exact .inl rfl
  · exact .inr rfl
theorem cg_2 (h : CgA xa xb) (h0 : mlE (tpM xb) xa = 0) : mlE (mlL (tpM xb) xa) xb = 0 ∨ mlE (mlL (tpM xb) xa) xb = 9 := by
  obtain ⟨h1, h2, h3, h4⟩ := h
  have hl : (tpM xb).length = rowL xb 0 := trL_len _ _ _
  have e : mlL (tpM xb) xa = mkL (rowL xb 0) (rowL xa 0) (prM (tpM xb) xa) := by unfold mlL; rw [if_pos h0, hl]
  have e : IsM (mlL (tpM xb) xa) ∧ IsM xb ∧ rowL (mlL (tpM xb) xa) 0 = xb.length := by
    rw [e]
    refine ⟨mkL_IsM h2.2.2 h1.2.2, h2, ?_⟩
    rcases Nat.eq_zero_or_pos xa.length with h0 | h0
    · rw [rowL_nil (by rw [mkL_len]; exact rowL_nil (by omega))]; omega
    · rw [mkL_rowL (h4 h0).2, (h4 h0).1, h3]
  unfold mlE
  rw [if_pos e]
  split
  · exact .inl rfl
  · exact .inr rfl
theorem cg_iff (ga : grB xa = false) (gb : grB xb = false) : CgA xa xb ↔ SqA xa ∧ EvA xb ∧ xb.length = xa.length ∧ ¬ (0 < xb.length ∧ rowL xb 0 = 0) := by
  have ga' : ¬ Grt xa := fun h => by rw [grB_iff.2 h] at ga; cases ga
  have gb' : ¬ Grt xb := fun h => by rw [grB_iff.2 h] at gb; cases gb
  unfold Grt at ga' gb'
  have la : xa.length ≤ 6 := Classical.byContradiction fun h => ga' (.inl (by omega))
  have lb : xb.length ≤ 6 := Classical.byContradiction fun h => gb' (.inl (by omega))
  have ra : ∀ i, i < xa.length → rowL xa i ≤ 6 := fun i hi => Classical.byContradiction fun h => ga' (.inr ⟨i, hi, by omega⟩)
  have rb : ∀ i, i < xb.length → rowL xb i ≤ 6 := fun i hi => Classical.byContradiction fun h => gb' (.inr ⟨i, hi, by omega⟩)
  have z : ∀ x : List (List Int), (∀ i, i < x.length → rowL x i ≤ 6) → rowL x 0 ≤ 64 := fun x h => by
    rcases Nat.eq_zero_or_pos x.length with h0 | h0
    · rw [rowL_nil h0]; omega
    · have := h 0 h0; omega
  constructor
  · rintro ⟨h1, h2, h3, h4⟩
    refine ⟨fun i hi => by rw [h1.1 i hi]; exact (h4 (by omega)).1, h2.1, h3.symm, fun hh => by have := h4 (by omega); omega⟩
  · rintro ⟨h1, h2, h3, h4⟩
    refine ⟨⟨fun i hi => by rw [h1 i hi, h1 0 (by omega)], by omega, z xa ra⟩, ⟨h2, by omega, z xb rb⟩, h3.symm, fun h0 => ⟨h1 0 h0, ?_⟩⟩
    rcases Nat.eq_zero_or_pos (rowL xb 0) with h | h
    · exact absurd ⟨by omega, h⟩ h4
    · exact h
end
section
variable (A B : Option Addr) (ca cb : Nat) (xa xb : List (List Int)) (w : World) (ha : AM w A xa.length xa) (hb : AM w B xb.length xb)
include ha hb
set_option maxHeartbeats 8000000 in
theorem scg_a (h : grB xa = true ∨ grB xb = true) : Calls Try.prog 9 #[.slice A xa.length ca, .slice B xb.length cb] w fun e w' => e = .returned (.bool true) ∧ Below w.heap.size w w' := by
  have HM_0 := Lib.hid ha
  have HN_0 := Lib.hid hb
  clear ha hb
  go_enter Try.func9, Try.ntmps9
  go_wp2_with fail
  refine (awake39 w).mono ?_
  rintro e w1 ⟨rfl, hb⟩
  have HM_1 := Lib.hid (HM_0.out.call hb)
  have HN_1 := Lib.hid (HN_0.out.call hb)
  have HB_1 := Lib.hid hb
  clear hb HM_0 HN_0
  go_wp2_with fail
  refine (great_any (cap := ca) HM_1.out).mono ?_
  rintro e w2 ⟨rfl, rfl⟩
  by_cases g1 : grB xa = true
  · rw [g1]
    clear h
    go_wp2_with fail
    go_ret
    exact ⟨rfl, HB_1.out⟩
  · have g2 := h.resolve_left g1
    rw [Bool.eq_false_iff.2 g1]
    clear h g1
    go_wp2_with fail
    refine (great_any (cap := cb) HN_1.out).mono ?_
    rintro e w2 ⟨rfl, rfl⟩
    rw [g2]
    go_wp2_with fail
    go_ret
    exact ⟨rfl, HB_1.out⟩
set_option maxRecDepth 100000 in
set_option maxHeartbeats 8000000 in
theorem scg_b (ga : grB xa = false) (gb : grB xb = false) (h : ¬ CgA xa xb) : Calls Try.prog 9 #[.slice A xa.length ca, .slice B xb.length cb] w fun e w' => e = .returned (.bool true) ∧ Below w.heap.size w w' := by
  have HM_0 := Lib.hid ha
  have HN_0 := Lib.hid hb
  have HH := Lib.hid (mt (cg_iff ga gb).2 h)
  have HE : Hid (cgE xa xb = 1) := Lib.hid (by unfold cgE; rw [if_neg h])
  have HGA := Lib.hid ga
  have HGB := Lib.hid gb
  obtain ⟨n, hn⟩ : ∃ n, xa.length = n := ⟨_, rfl⟩
  obtain ⟨m, hm⟩ : ∃ m, xb.length = m := ⟨_, rfl⟩
  rw [hn] at HM_0 HH ⊢
  rw [hm] at HN_0 HH ⊢
  have hnl := HM_0.out.nl
  have hml := HN_0.out.nl
  unfold maxLen at hnl hml
  clear ha hb ga gb h hn hm
  go_enter Try.func9, Try.ntmps9
  go_wp2_with fail
  refine (awake39 w).mono ?_
  rintro e w1 ⟨rfl, hb⟩
  have HM_1 := Lib.hid (HM_0.out.call hb)
  have HN_1 := Lib.hid (HN_0.out.call hb)
  have HB_1 := Lib.hid hb
  clear hb HM_0 HN_0
  go_wp2_with fail
  refine (great_any (cap := ca) HM_1.out).mono ?_
  rintro e w2 ⟨rfl, rfl⟩
  rw [HGA.out]
  go_wp2_with fail
  refine (great_any (cap := cb) HN_1.out).mono ?_
  rintro e w2 ⟨rfl, rfl⟩
  rw [HGB.out]
  go_wp2_with fail
  refine (cong_any (ca := ca) (cb := cb) HM_1.out HN_1.out).mono ?_
  rintro e w2 ⟨A3, n3, c3, rfl, hg, hb⟩
  have HM_2 := Lib.hid (HM_1.out.call hb)
  have HN_2 := Lib.hid (HN_1.out.call hb)
  have HB_2 := Lib.hid (below_cons HB_1.out hb)
  obtain rfl : n3 = 0 := by have := hg.ln; rw [cgL_no HE.out (by decide)] at this; exact this.symm
  clear hb hg HM_1 HN_1 HB_1 HGA HGB
  rw [HE.out]
  go_wp2_with fail
  refine (lsquare_any (cap := ca) HM_2.out).mono ?_
  rintro e w3 ⟨rfl, rfl⟩
  by_cases h1 : SqA xa
  · rw [decide_eq_true h1]
    go_wp2_with fail
    refine (leven_any (cap := cb) HN_2.out).mono ?_
    rintro e w3 ⟨rfl, rfl⟩
    by_cases h2 : EvA xb
    · rw [decide_eq_true h2]
      by_cases h3 : m = n
      · have h4 : 0 < m ∧ rowL xb 0 = 0 := Classical.byContradiction fun hh => HH.out ⟨h1, h2, h3, hh⟩
        obtain ⟨h4, h5⟩ := h4
        subst h3
        obtain ⟨b1, o1, Ai, ci, rfl, c1, -⟩ := HN_2.out.head h4
        rw [Nat.add_zero, h5] at c1
        have z0 : ((m : Int) != (m : Int)) = false := by rw [bne_eq_false_iff_eq]
        clear h1 h2 h5 HH HE
        go_wp2_with fail
        go_ret
        exact ⟨rfl, HB_2.out⟩
      · have z1 : ((m : Int) != (n : Int)) = true := by rw [bne_iff_ne]; omega
        clear h1 h2 HH HE
        go_wp2_with fail
        go_ret
        exact ⟨rfl, HB_2.out⟩
    · rw [decide_eq_false h2]
      clear h1 h2 HH HE
      go_wp2_with fail
      go_ret
      exact ⟨rfl, HB_2.out⟩
  · rw [decide_eq_false h1]
    clear h1 HH HE
    go_wp2_with fail
    go_ret
    exact ⟨rfl, HB_2.out⟩
set_option maxRecDepth 100000 in
set_option maxHeartbeats 8000000 in
theorem scg_c (ga : grB xa = false) (gb : grB xb = false) (h : CgA xa xb) : Calls Try.prog 9 #[.slice A xa.length ca, .slice B xb.length cb] w fun e w' => e = .returned (.bool true) ∧ Below w.heap.size w w' := by
  have HM_0 := Lib.hid ha
  have HN_0 := Lib.hid hb
  obtain ⟨q1, q2, q3, q4⟩ := (cg_iff ga gb).1 h
  have HSQ := Lib.hid q1
  have HEV := Lib.hid q2
  have HIM := Lib.hid h.2.1
  have HE1 := Lib.hid (cg_1 h)
  have HE2 := Lib.hid (cg_2 h)
  have HCE := Lib.hid fun (e1 : Nat) (h1 : mlE (tpM xb) xa = e1) (h0 : e1 = 0) => cg_end h h1 h0
  have HCN : Hid (∀ e1, mlE (tpM xb) xa = e1 → e1 ≠ 0 → cgE xa xb = e1) := Lib.hid fun e1 h1 h0 => by unfold cgE; rw [if_pos h, if_neg (by rw [h1]; exact h0), h1]
  have HGA := Lib.hid ga
  have HGB := Lib.hid gb
  obtain ⟨n, hn⟩ : ∃ n, xa.length = n := ⟨_, rfl⟩
  rw [hn] at HM_0 q3 ⊢
  rw [q3] at HN_0 q4 ⊢
  have hnl : n ≤ 64 := by have := h.1.2.1; omega
  obtain ⟨c, hc⟩ : ∃ c, rowL xb 0 = c := ⟨_, rfl⟩
  have HC := Lib.hid hc
  have hcl : c ≤ 64 := by have := h.2.1.2.2; omega
  rw [hc] at q4
  have HTP : Hid (trL xb n c = tpM xb) := Lib.hid (by unfold tpM; rw [q3, hc])
  have hc0 : n = 0 → c = 0 := fun h0 => by rw [← hc]; exact rowL_nil (by omega)
  have hc1 : 0 < n → 0 < c := fun h0 => by
    rcases Nat.eq_zero_or_pos c with h | h
    · exact absurd ⟨h0, h⟩ q4
    · exact h
  clear ha hb ga gb h hn hc q1 q2 q3 q4
  go_enter Try.func9, Try.ntmps9
  go_wp2_with fail
  refine (awake39 w).mono ?_
  rintro e w1 ⟨rfl, hb⟩
  have HM_1 := Lib.hid (HM_0.out.call hb)
  have HN_1 := Lib.hid (HN_0.out.call hb)
  have HB_1 := Lib.hid hb
  clear hb HM_0 HN_0
  go_wp2_with fail
  refine (great_any (cap := ca) HM_1.out).mono ?_
  rintro e w2 ⟨rfl, rfl⟩
  rw [HGA.out]
  go_wp2_with fail
  refine (great_any (cap := cb) HN_1.out).mono ?_
  rintro e w2 ⟨rfl, rfl⟩
  rw [HGB.out]
  go_wp2_with fail
  refine (cong_any (ca := ca) (cb := cb) HM_1.out HN_1.out).mono ?_
  rintro e w2 ⟨A3, n3, c3, rfl, hg, hb⟩
  have HM_2 := Lib.hid (HM_1.out.call hb)
  have HN_2 := Lib.hid (HN_1.out.call hb)
  have HG_2 := Lib.hid hg
  have HB_2 := Lib.hid (below_cons HB_1.out hb)
  clear hb hg HM_1 HN_1 HB_1 HGA HGB
  go_wp2_with fail
  refine (lsquare_any (cap := ca) HM_2.out).mono ?_
  rintro e w3 ⟨rfl, rfl⟩
  rw [decide_eq_true HSQ.out]
  go_wp2_with fail
  refine (leven_any (cap := cb) HN_2.out).mono ?_
  rintro e w3 ⟨rfl, rfl⟩
  rw [decide_eq_true HEV.out]
  have z0 : ((n : Int) != (n : Int)) = false := by rw [bne_eq_false_iff_eq]
  have HTR := Lib.hid (rtr_am (cap := cb) HN_2.out HIM.out HC.out)
  have hcase : (n = 0 ∧ c = 0) ∨ (0 < n ∧ 0 < c) := by omega
  clear hc0 hc1 HSQ HEV HIM
  rcases hcase with ⟨rfl, rfl⟩ | ⟨hn0, hc0⟩
  · go_wp2_with fail
    refine HTR.out.mono ?_
    rintro e w4 ⟨A4, c4, rfl, ht, hb⟩
    rw [HTP.out] at ht
    have HM_4 := Lib.hid (HM_2.out.call hb)
    have HN_4 := Lib.hid (HN_2.out.call hb)
    have HG_4 := Lib.hid (HG_2.out.call hb)
    have HB_4 := Lib.hid (below_cons HB_2.out hb)
    have HML := Lib.hid (rmul_any (ca := c4) (cb := ca) ht HM_4.out)
    clear hb ht HM_2 HN_2 HG_2 HB_2 HTR HTP HC
    go_wp2_with fail
    refine HML.out.mono ?_
    rintro e w5 ⟨A5, n5, c5, rfl, hx, hb⟩
    have HN_5 := Lib.hid (HN_4.out.call hb)
    have HG_5 := Lib.hid (HG_4.out.call hb)
    have HB_5 := Lib.hid (below_cons HB_4.out hb)
    have HMM := Lib.hid (rmul_any (ca := c5) (cb := cb) hx HN_5.out)
    clear hb hx HM_4 HN_4 HG_4 HB_4 HML
    rcases HE1.out with h1 | h1
    · have HQ := Lib.hid (HCE.out _ h1 rfl)
      have h2 := HE2.out h1
      rw [h1]
      clear h1
      go_wp2_with fail
      refine HMM.out.mono ?_
      rintro e w6 ⟨A6, n6, c6, rfl, hy, hb⟩
      have HG_6 := Lib.hid (HG_5.out.call hb)
      have HB_6 := Lib.hid (below_cons HB_5.out hb)
      have HY_6 := Lib.hid hy
      clear hb hy HMM HG_5 HB_5 HN_5
      rcases h2 with h2 | h2
      · rw [h2, show cgE xa xb = 0 from HQ.out.1.trans h2]
        have HRL := Lib.hid (rlists_is (c := c3) (d := c6) _ true HG_6.out.rd HY_6.out.rd HG_6.out.ln HY_6.out.ln (by have := HG_6.out.nl; unfold maxLen at this; omega) (decide_eq_true HQ.out.2))
        clear h2
        go_wp2_with fail
        refine HRL.out.mono ?_
        rintro e w7 ⟨rfl, nd, rfl⟩
        go_wp2_with fail
        go_ret
        exact ⟨rfl, below_drewN HB_6.out nd⟩
      · have hce : cgE xa xb = 9 := HQ.out.1.trans h2
        obtain rfl : n3 = 0 := by have := HG_6.out.ln; rw [cgL_no hce (by decide)] at this; exact this.symm
        rw [h2, hce]
        clear h2 hce
        go_wp2_with fail
        go_ret
        exact ⟨rfl, HB_6.out⟩
    · have hce : cgE xa xb = 9 := HCN.out 9 h1 (by decide)
      obtain rfl : n3 = 0 := by have := HG_5.out.ln; rw [cgL_no hce (by decide)] at this; exact this.symm
      rw [h1, hce]
      clear h1 hce
      go_wp2_with fail
      go_ret
      exact ⟨rfl, HB_5.out⟩
  · obtain ⟨b1, o1, Ai, ci, rfl, d1, -⟩ := HN_2.out.head hn0
    rw [Nat.add_zero, HC.out] at d1
    have z1 : ((c : Int) == 0) = false := by rw [beq_eq_false_iff_ne]; omega
    go_wp2_with fail
    clear z1 d1
    refine HTR.out.mono ?_
    rintro e w4 ⟨A4, c4, rfl, ht, hb⟩
    rw [HTP.out] at ht
    have HM_4 := Lib.hid (HM_2.out.call hb)
    have HN_4 := Lib.hid (HN_2.out.call hb)
    have HG_4 := Lib.hid (HG_2.out.call hb)
    have HB_4 := Lib.hid (below_cons HB_2.out hb)
    have HML := Lib.hid (rmul_any (ca := c4) (cb := ca) ht HM_4.out)
    clear hb ht HM_2 HN_2 HG_2 HB_2 HTR HTP HC
    go_wp2_with fail
    refine HML.out.mono ?_
    rintro e w5 ⟨A5, n5, c5, rfl, hx, hb⟩
    have HN_5 := Lib.hid (HN_4.out.call hb)
    have HG_5 := Lib.hid (HG_4.out.call hb)
    have HB_5 := Lib.hid (below_cons HB_4.out hb)
    have HMM := Lib.hid (rmul_any (ca := c5) (cb := cb) hx HN_5.out)
    clear hb hx HM_4 HN_4 HG_4 HB_4 HML
    rcases HE1.out with h1 | h1
    · have HQ := Lib.hid (HCE.out _ h1 rfl)
      have h2 := HE2.out h1
      rw [h1]
      clear h1
      go_wp2_with fail
      refine HMM.out.mono ?_
      rintro e w6 ⟨A6, n6, c6, rfl, hy, hb⟩
      have HG_6 := Lib.hid (HG_5.out.call hb)
      have HB_6 := Lib.hid (below_cons HB_5.out hb)
      have HY_6 := Lib.hid hy
      clear hb hy HMM HG_5 HB_5 HN_5
      rcases h2 with h2 | h2
      · rw [h2, show cgE xa xb = 0 from HQ.out.1.trans h2]
        have HRL := Lib.hid (rlists_is (c := c3) (d := c6) _ true HG_6.out.rd HY_6.out.rd HG_6.out.ln HY_6.out.ln (by have := HG_6.out.nl; unfold maxLen at this; omega) (decide_eq_true HQ.out.2))
        clear h2
        go_wp2_with fail
        refine HRL.out.mono ?_
        rintro e w7 ⟨rfl, nd, rfl⟩
        go_wp2_with fail
        go_ret
        exact ⟨rfl, below_drewN HB_6.out nd⟩
      · have hce : cgE xa xb = 9 := HQ.out.1.trans h2
        obtain rfl : n3 = 0 := by have := HG_6.out.ln; rw [cgL_no hce (by decide)] at this; exact this.symm
        rw [h2, hce]
        clear h2 hce
        go_wp2_with fail
        go_ret
        exact ⟨rfl, HB_6.out⟩
    · have hce : cgE xa xb = 9 := HCN.out 9 h1 (by decide)
      obtain rfl : n3 = 0 := by have := HG_5.out.ln; rw [cgL_no hce (by decide)] at this; exact this.symm
      rw [h1, hce]
      clear h1 hce
      go_wp2_with fail
      go_ret
      exact ⟨rfl, HB_5.out⟩
end
theorem signatureCongruent_walk (A : Option Addr) (ca : Nat) (xa : List (List Int)) (B : Option Addr) (cb : Nat) (xb : List (List Int)) (w : World) (ha : AM w A xa.length xa) (hb : AM w B xb.length xb) : Calls Try.prog 9 #[.slice A xa.length ca, .slice B xb.length cb] w fun e w' => e = .returned (.bool true) ∧ Below w.heap.size w w' := by
  by_cases g1 : grB xa = true
  · exact scg_a A B ca cb xa xb w ha hb (.inl g1)
  · by_cases g2 : grB xb = true
    · exact scg_a A B ca cb xa xb w ha hb (.inr g2)
    · by_cases h : CgA xa xb
      · exact scg_c A B ca cb xa xb w ha hb (Bool.eq_false_iff.2 g1) (Bool.eq_false_iff.2 g2) h
      · exact scg_b A B ca cb xa xb w ha hb (Bool.eq_false_iff.2 g1) (Bool.eq_false_iff.2 g2) h
end Go.Proofs.Yteanhbldhaiekaa

