/-
  The law IntmatrixProducts, walked: the call returns true and writes nothing that was there.
-/
import Derived.Test.YtjlokbolmindgaaMulW
import Derived.Test.YtjlokbolmindgaaDMul
namespace Go.Proofs.Ytjlokbolmindgaa
open Go.RowKit

theorem dt_09 {xss : List (List Int)} (h : IsM xss) (hq : xss.length = rowL xss 0) : ((dtE xss : Nat) : Int) = 0 ∨ ((dtE xss : Nat) : Int) = 9 := by
  unfold dtE
  rw [if_pos ⟨h, hq⟩]
  split
  · exact .inl rfl
  · exact .inr rfl
theorem dt_ok {xss : List (List Int)} (h : dtE xss = 0) : dtV xss = det xss.length (eI xss) ∧ Sml xss := by
  refine ⟨by unfold dtV; rw [if_pos h], ?_⟩
  unfold dtE at h
  split at h
  · split at h
    · assumption
    · cases h
  · cases h
theorem IsM_nil : IsM [] := ⟨fun i hi => absurd hi (Nat.not_lt_zero _), by decide, by decide⟩
section
variable (A : Option Addr) (ca : Nat) (xa : List (List Int)) (B : Option Addr) (cb : Nat) (xb : List (List Int)) (w : World) (ha : AM w A xa.length xa) (hb : AM w B xb.length xb)
include ha hb
set_option maxHeartbeats 4000000 in
theorem ipr_a (h : ¬ szB xa 12) : Calls Try.prog 9 #[.slice A xa.length ca, .slice B xb.length cb] w fun e w' => e = .returned (.bool true) ∧ Below w.heap.size w w' := by
  have HM_0 := Lib.hid ha
  have HN_0 := Lib.hid hb
  have HD := Lib.hid (decide_eq_false h)
  clear ha hb h
  go_enter Try.func9, Try.ntmps9
  go_wp2_with fail
  refine (awake26 w).mono ?_
  rintro e w1 ⟨rfl, hb⟩
  have HM_1 := Lib.hid (HM_0.out.call hb)
  have HN_1 := Lib.hid (HN_0.out.call hb)
  have HB_1 := Lib.hid hb
  clear hb HM_0 HN_0
  go_wp2_with fail
  refine (size_any (cap := ca) HM_1.out 12).mono ?_
  rintro e w_ ⟨rfl, rfl⟩
  rw [HD.out]
  go_wp2_with fail
  refine (size_any (cap := cb) HN_1.out 12).mono ?_
  rintro e w_ ⟨rfl, rfl⟩
  go_wp2_with fail
  go_ret
  exact ⟨rfl, HB_1.out⟩
set_option maxHeartbeats 4000000 in
theorem ipr_b (h : szB xa 12) (h2 : ¬ szB xb 12) : Calls Try.prog 9 #[.slice A xa.length ca, .slice B xb.length cb] w fun e w' => e = .returned (.bool true) ∧ Below w.heap.size w w' := by
  have HM_0 := Lib.hid ha
  have HN_0 := Lib.hid hb
  have HD := Lib.hid (decide_eq_true h)
  have HE := Lib.hid (decide_eq_false h2)
  clear ha hb h h2
  go_enter Try.func9, Try.ntmps9
  go_wp2_with fail
  refine (awake26 w).mono ?_
  rintro e w1 ⟨rfl, hb⟩
  have HM_1 := Lib.hid (HM_0.out.call hb)
  have HN_1 := Lib.hid (HN_0.out.call hb)
  have HB_1 := Lib.hid hb
  clear hb HM_0 HN_0
  go_wp2_with fail
  refine (size_any (cap := ca) HM_1.out 12).mono ?_
  rintro e w_ ⟨rfl, rfl⟩
  rw [HD.out]
  go_wp2_with fail
  refine (size_any (cap := cb) HN_1.out 12).mono ?_
  rintro e w_ ⟨rfl, rfl⟩
  rw [HE.out]
  go_wp2_with fail
  go_ret
  exact ⟨rfl, HB_1.out⟩
set_option maxHeartbeats 4000000 in
theorem ipr_c (h : szB xa 12) (h2 : szB xb 12) (h3 : rowL xa 0 ≠ xa.length) : Calls Try.prog 9 #[.slice A xa.length ca, .slice B xb.length cb] w fun e w' => e = .returned (.bool true) ∧ Below w.heap.size w w' := by
  have HM_0 := Lib.hid ha
  have HN_0 := Lib.hid hb
  obtain ⟨n, hn⟩ : ∃ n, xa.length = n := ⟨_, rfl⟩
  obtain ⟨m, hm⟩ : ∃ m, xb.length = m := ⟨_, rfl⟩
  obtain ⟨c, hc⟩ : ∃ c, rowL xa 0 = c := ⟨_, rfl⟩
  obtain ⟨d, hd⟩ : ∃ d, rowL xb 0 = d := ⟨_, rfl⟩
  have HD := Lib.hid (decide_eq_true h)
  have HE := Lib.hid (decide_eq_true h2)
  have HSA : Hid (shp xa = (c : Nat)) := by unfold shp; rw [if_pos h.1, hc]; exact rfl
  have HSB : Hid (shp xb = (d : Nat)) := by unfold shp; rw [if_pos h2.1, hd]; exact rfl
  rw [hn] at HM_0 ⊢
  rw [hm] at HN_0 ⊢
  have h3' : ((c : Int) != (n : Int)) = true := by rw [bne_iff_ne]; omega
  clear ha hb h h2 h3 hn hm hc hd
  go_enter Try.func9, Try.ntmps9
  go_wp2_with fail
  refine (awake26 w).mono ?_
  rintro e w1 ⟨rfl, hb⟩
  have HM_1 := Lib.hid (HM_0.out.call hb)
  have HN_1 := Lib.hid (HN_0.out.call hb)
  have HB_1 := Lib.hid hb
  clear hb HM_0 HN_0
  go_wp2_with fail
  refine (size_any (cap := ca) HM_1.out 12).mono ?_
  rintro e w_ ⟨rfl, rfl⟩
  rw [HD.out, HSA.out]
  go_wp2_with fail
  refine (size_any (cap := cb) HN_1.out 12).mono ?_
  rintro e w_ ⟨rfl, rfl⟩
  rw [HE.out, HSB.out]
  go_wp2_with fail
  go_ret
  exact ⟨rfl, HB_1.out⟩
set_option maxHeartbeats 4000000 in
theorem ipr_d (h : szB xa 12) (h2 : szB xb 12) (h3 : rowL xa 0 = xa.length) (h4 : rowL xb 0 ≠ xb.length) : Calls Try.prog 9 #[.slice A xa.length ca, .slice B xb.length cb] w fun e w' => e = .returned (.bool true) ∧ Below w.heap.size w w' := by
  have HM_0 := Lib.hid ha
  have HN_0 := Lib.hid hb
  obtain ⟨n, hn⟩ : ∃ n, xa.length = n := ⟨_, rfl⟩
  obtain ⟨m, hm⟩ : ∃ m, xb.length = m := ⟨_, rfl⟩
  obtain ⟨c, hc⟩ : ∃ c, rowL xa 0 = c := ⟨_, rfl⟩
  obtain ⟨d, hd⟩ : ∃ d, rowL xb 0 = d := ⟨_, rfl⟩
  have HD := Lib.hid (decide_eq_true h)
  have HE := Lib.hid (decide_eq_true h2)
  have HSA : Hid (shp xa = (c : Nat)) := by unfold shp; rw [if_pos h.1, hc]; exact rfl
  have HSB : Hid (shp xb = (d : Nat)) := by unfold shp; rw [if_pos h2.1, hd]; exact rfl
  rw [hn] at HM_0 ⊢
  rw [hm] at HN_0 ⊢
  obtain rfl : c = n := by omega
  have h4' : ((d : Int) != (m : Int)) = true := by rw [bne_iff_ne]; omega
  clear ha hb h h2 h3 h4 hn hm hc hd
  go_enter Try.func9, Try.ntmps9
  go_wp2_with fail
  refine (awake26 w).mono ?_
  rintro e w1 ⟨rfl, hb⟩
  have HM_1 := Lib.hid (HM_0.out.call hb)
  have HN_1 := Lib.hid (HN_0.out.call hb)
  have HB_1 := Lib.hid hb
  clear hb HM_0 HN_0
  go_wp2_with fail
  refine (size_any (cap := ca) HM_1.out 12).mono ?_
  rintro e w_ ⟨rfl, rfl⟩
  rw [HD.out, HSA.out]
  go_wp2_with fail
  refine (size_any (cap := cb) HN_1.out 12).mono ?_
  rintro e w_ ⟨rfl, rfl⟩
  rw [HE.out, HSB.out]
  go_wp2_with fail
  go_ret
  exact ⟨rfl, HB_1.out⟩
set_option maxHeartbeats 4000000 in
theorem ipr_e (h : szB xa 12) (h2 : szB xb 12) (h3 : rowL xa 0 = xa.length) (h4 : rowL xb 0 = xb.length) (h5 : rowL xa 0 ≠ rowL xb 0) : Calls Try.prog 9 #[.slice A xa.length ca, .slice B xb.length cb] w fun e w' => e = .returned (.bool true) ∧ Below w.heap.size w w' := by
  have HM_0 := Lib.hid ha
  have HN_0 := Lib.hid hb
  obtain ⟨n, hn⟩ : ∃ n, xa.length = n := ⟨_, rfl⟩
  obtain ⟨m, hm⟩ : ∃ m, xb.length = m := ⟨_, rfl⟩
  obtain ⟨c, hc⟩ : ∃ c, rowL xa 0 = c := ⟨_, rfl⟩
  obtain ⟨d, hd⟩ : ∃ d, rowL xb 0 = d := ⟨_, rfl⟩
  have HD := Lib.hid (decide_eq_true h)
  have HE := Lib.hid (decide_eq_true h2)
  have HSA : Hid (shp xa = (c : Nat)) := by unfold shp; rw [if_pos h.1, hc]; exact rfl
  have HSB : Hid (shp xb = (d : Nat)) := by unfold shp; rw [if_pos h2.1, hd]; exact rfl
  rw [hn] at HM_0 ⊢
  rw [hm] at HN_0 ⊢
  obtain rfl : c = n := by omega
  obtain rfl : d = m := by omega
  have h5' : ((c : Int) != (d : Int)) = true := by rw [bne_iff_ne]; omega
  clear ha hb h h2 h3 h4 h5 hn hm hc hd
  go_enter Try.func9, Try.ntmps9
  go_wp2_with fail
  refine (awake26 w).mono ?_
  rintro e w1 ⟨rfl, hb⟩
  have HM_1 := Lib.hid (HM_0.out.call hb)
  have HN_1 := Lib.hid (HN_0.out.call hb)
  have HB_1 := Lib.hid hb
  clear hb HM_0 HN_0
  go_wp2_with fail
  refine (size_any (cap := ca) HM_1.out 12).mono ?_
  rintro e w_ ⟨rfl, rfl⟩
  rw [HD.out, HSA.out]
  go_wp2_with fail
  refine (size_any (cap := cb) HN_1.out 12).mono ?_
  rintro e w_ ⟨rfl, rfl⟩
  rw [HE.out, HSB.out]
  go_wp2_with fail
  go_ret
  exact ⟨rfl, HB_1.out⟩
set_option maxHeartbeats 8000000 in
theorem ipr_ok (h : szB xa 12) (h2 : szB xb 12) (h3 : rowL xa 0 = xa.length) (h4 : rowL xb 0 = xb.length) (h5 : rowL xa 0 = rowL xb 0) : Calls Try.prog 9 #[.slice A xa.length ca, .slice B xb.length cb] w fun e w' => e = .returned (.bool true) ∧ Below w.heap.size w w' := by
  have HM_0 := Lib.hid ha
  have HN_0 := Lib.hid hb
  obtain ⟨n, hn⟩ : ∃ n, xa.length = n := ⟨_, rfl⟩
  obtain ⟨m, hm⟩ : ∃ m, xb.length = m := ⟨_, rfl⟩
  obtain ⟨c, hc⟩ : ∃ c, rowL xa 0 = c := ⟨_, rfl⟩
  obtain ⟨d, hd⟩ : ∃ d, rowL xb 0 = d := ⟨_, rfl⟩
  have HD := Lib.hid (decide_eq_true h)
  have HE := Lib.hid (decide_eq_true h2)
  have HSA : Hid (shp xa = (c : Nat)) := by unfold shp; rw [if_pos h.1, hc]; exact rfl
  have HSB : Hid (shp xb = (d : Nat)) := by unfold shp; rw [if_pos h2.1, hd]; exact rfl
  rw [hn] at HM_0 ⊢
  rw [hm] at HN_0 ⊢
  obtain rfl : c = n := by omega
  obtain rfl : d = m := by omega
  obtain rfl : c = d := by omega
  have hml : mlE xa xb = 0 → mlL xa xb = mkL c c (prM xa xb) := fun e => by unfold mlL; rw [if_pos e, hn, hd]
  have H1 : Hid (((mlE xa xb : Nat) : Int) = 0 ∨ ((mlE xa xb : Nat) : Int) = 9) := by
    unfold mlE
    rw [if_pos ⟨h.1, h2.1, by omega⟩]
    by_cases e : (Sm1 xa ∧ Sm1 xb) ∧ Wt1 xa xb
    · rw [if_pos e]; exact .inl rfl
    · rw [if_neg e]; exact .inr rfl
  have H2 : Hid (((dtE xa : Nat) : Int) = 0 ∨ ((dtE xa : Nat) : Int) = 9) := dt_09 h.1 (by omega)
  have H3 : Hid (((dtE xb : Nat) : Int) = 0 ∨ ((dtE xb : Nat) : Int) = 9) := dt_09 h2.1 (by omega)
  have hc12 : c ≤ 12 := by have := h.2.1; omega
  have H4 : Hid (((dtE (mlL xa xb) : Nat) : Int) = 0 ∨ ((dtE (mlL xa xb) : Nat) : Int) = 9) := by
    by_cases e : mlE xa xb = 0
    · rw [hml e]
      refine dt_09 (mkL_IsM (by omega) (by omega)) ?_
      rw [mkL_len]
      rcases Nat.eq_zero_or_pos c with h0 | h0
      · rw [rowL_nil (by rw [mkL_len]; exact h0), h0]
      · rw [mkL_rowL h0]
    · have : mlL xa xb = [] := by unfold mlL; rw [if_neg e]
      rw [this]
      exact dt_09 IsM_nil rfl
  have HALL : Hid (mlE xa xb = 0 → dtE xa = 0 → dtE xb = 0 → dtE (mlL xa xb) = 0 → dtV xa * dtV xb = dtV (mlL xa xb) ∧ (dtV (mlL xa xb)).natAbs ≤ 1125899906842624) := fun a1 a2 a3 a4 => by
    have hs := (dt_ok a4).2
    have e4 := (dt_ok a4).1
    rw [(dt_ok a2).1, (dt_ok a3).1, e4, hn, hm]
    rw [hml a1] at hs ⊢
    rw [mkL_len]
    constructor
    · rw [← det_mulM]
      refine (det_congr fun i j hi hj => ?_).symm
      rw [mkL_eI hi hj]
      unfold prM mulM
      rw [hm]
    · have hr : rowL (mkL c c (prM xa xb)) 0 = c := by
        rcases Nat.eq_zero_or_pos c with h0 | h0
        · rw [rowL_nil (by rw [mkL_len]; exact h0), h0]
        · rw [mkL_rowL h0]
      have h1 := hs.lt
      rw [mkL_len, hr] at h1
      exact Nat.le_trans (minor_bound (n := c) (c := c) (k := c) (eI (mkL c c (prM xa xb))) (is := id) (js := id) (fun a b _ _ e => e) (fun a ha => ha) (fun a b _ _ e => e) (fun a ha => ha)) h1
  clear ha hb h h2 h3 h4 h5 hn hm hc hd hml
  go_enter Try.func9, Try.ntmps9
  go_wp2_with fail
  refine (awake26 w).mono ?_
  rintro e w1 ⟨rfl, hb⟩
  have HM_1 := Lib.hid (HM_0.out.call hb)
  have HN_1 := Lib.hid (HN_0.out.call hb)
  have HB_1 := Lib.hid hb
  clear hb HM_0 HN_0
  go_wp2_with fail
  refine (size_any (cap := ca) HM_1.out 12).mono ?_
  rintro e w_ ⟨rfl, rfl⟩
  rw [HD.out, HSA.out]
  go_wp2_with fail
  refine (size_any (cap := cb) HN_1.out 12).mono ?_
  rintro e w_ ⟨rfl, rfl⟩
  rw [HE.out, HSB.out]
  go_wp2_with fail
  refine (mul_any (ca := ca) (cb := cb) HM_1.out HN_1.out).mono ?_
  rintro e w2 ⟨Am, nm, cm, rfl, hp, hb⟩
  have HM_2 := Lib.hid (HM_1.out.call hb)
  have HN_2 := Lib.hid (HN_1.out.call hb)
  have HB_2 := Lib.hid (below_cons HB_1.out hb)
  have HP_2 := Lib.hid hp
  clear hp
  clear hb HM_1 HN_1 HB_1
  obtain ⟨e1, he1⟩ : ∃ e : Int, ((mlE xa xb : Nat) : Int) = e := ⟨_, rfl⟩
  have HE1 := Lib.hid he1
  rw [he1]
  clear he1
  go_wp2_with fail
  refine (det_any (cap := ca) HM_2.out).mono ?_
  rintro e w3 ⟨rfl, hb⟩
  have HM_3 := Lib.hid (HM_2.out.call hb)
  have HN_3 := Lib.hid (HN_2.out.call hb)
  have HP_3 := Lib.hid (HP_2.out.call hb)
  have HB_3 := Lib.hid (below_cons HB_2.out hb)
  clear hb HM_2 HN_2 HP_2 HB_2
  obtain ⟨e2, he2⟩ : ∃ e : Int, ((dtE xa : Nat) : Int) = e := ⟨_, rfl⟩
  obtain ⟨v2, hv2⟩ : ∃ v : Int, dtV xa = v := ⟨_, rfl⟩
  have HE2 := Lib.hid he2
  have HV2 := Lib.hid hv2
  rw [he2, hv2]
  clear he2 hv2
  go_wp2_with fail
  refine (det_any (cap := cb) HN_3.out).mono ?_
  rintro e w4 ⟨rfl, hb⟩
  have HM_4 := Lib.hid (HM_3.out.call hb)
  have HN_4 := Lib.hid (HN_3.out.call hb)
  have HP_4 := Lib.hid (HP_3.out.call hb)
  have HB_4 := Lib.hid (below_cons HB_3.out hb)
  clear hb HM_3 HN_3 HP_3 HB_3
  obtain ⟨e3, he3⟩ : ∃ e : Int, ((dtE xb : Nat) : Int) = e := ⟨_, rfl⟩
  obtain ⟨v3, hv3⟩ : ∃ v : Int, dtV xb = v := ⟨_, rfl⟩
  have HE3 := Lib.hid he3
  have HV3 := Lib.hid hv3
  rw [he3, hv3]
  clear he3 hv3
  go_wp2_with fail
  refine (det_any (cap := cm) HP_4.out).mono ?_
  rintro e w5 ⟨rfl, hb⟩
  have HM_5 := Lib.hid (HM_4.out.call hb)
  have HN_5 := Lib.hid (HN_4.out.call hb)
  have HP_5 := Lib.hid (HP_4.out.call hb)
  have HB_5 := Lib.hid (below_cons HB_4.out hb)
  clear hb HM_4 HN_4 HP_4 HB_4
  obtain ⟨e4, he4⟩ : ∃ e : Int, ((dtE (mlL xa xb) : Nat) : Int) = e := ⟨_, rfl⟩
  obtain ⟨v4, hv4⟩ : ∃ v : Int, dtV (mlL xa xb) = v := ⟨_, rfl⟩
  have HE4 := Lib.hid he4
  have HV4 := Lib.hid hv4
  rw [he4, hv4]
  clear he4 hv4
  have hc1 := H1.out
  have hc2 := H2.out
  have hc3 := H3.out
  have hc4 := H4.out
  rw [HE1.out] at hc1
  rw [HE2.out] at hc2
  rw [HE3.out] at hc3
  rw [HE4.out] at hc4
  by_cases hall : e1 = 0 ∧ e2 = 0 ∧ e3 = 0 ∧ e4 = 0
  · obtain ⟨rfl, rfl, rfl, rfl⟩ := hall
    have hx := HALL.out (by have := HE1.out; omega) (by have := HE2.out; omega) (by have := HE3.out; omega) (by have := HE4.out; omega)
    rw [HV2.out, HV3.out, HV4.out] at hx
    have x1 : IntKind.i64.wrap (v2 * v3) = v4 := by rw [← hx.1]; exact IntWalk.i64_in _ (by have := hx.2; omega)
    clear hx hc1 hc2 hc3 hc4
    go_wp2_with fail
    go_ret
    exact ⟨rfl, HB_5.out⟩
  · rcases hc1 with rfl | rfl <;> rcases hc2 with rfl | rfl <;> rcases hc3 with rfl | rfl <;> rcases hc4 with rfl | rfl
    · exact absurd ⟨rfl, rfl, rfl, rfl⟩ hall
    all_goals
      clear hall
      go_wp2_with fail
      go_ret
      exact ⟨rfl, HB_5.out⟩

theorem intmatrixProducts_walk : Calls Try.prog 9 #[.slice A xa.length ca, .slice B xb.length cb] w fun e w' => e = .returned (.bool true) ∧ Below w.heap.size w w' := by
  by_cases h : szB xa 12
  · by_cases h2 : szB xb 12
    · by_cases h3 : rowL xa 0 = xa.length
      · by_cases h4 : rowL xb 0 = xb.length
        · by_cases h5 : rowL xa 0 = rowL xb 0
          · exact ipr_ok A ca xa B cb xb w ha hb h h2 h3 h4 h5
          · exact ipr_e A ca xa B cb xb w ha hb h h2 h3 h4 h5
        · exact ipr_d A ca xa B cb xb w ha hb h h2 h3 h4
      · exact ipr_c A ca xa B cb xb w ha hb h h2 h3
    · exact ipr_b A ca xa B cb xb w ha hb h h2
  · exact ipr_a A ca xa B cb xb w ha hb h
end
end Go.Proofs.Ytjlokbolmindgaa

