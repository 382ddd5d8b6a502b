/-
  The law IntmatrixRows, walked: the call returns true and writes nothing that was there.
-/
import Derived.Test.YtjlokbolmindgaaRowsM
import Derived.BigRegion
import Derived.Deep.RegionHeld3
namespace Go.Proofs.Ytjlokbolmindgaa
open Go.RowKit

theorem u8_wf {n : Int} (h : (Lit.int .u8 n).wf = true) : 0 ≤ n ∧ n ≤ 255 := by
  have hmin : IntKind.u8.min = 0 := rfl
  have hmax : IntKind.u8.max = 255 := rfl
  simp only [Lit.wf, Bool.and_eq_true, decide_eq_true_eq] at h
  omega
theorem i8_wf {n : Int} (h : (Lit.int .i8 n).wf = true) : -128 ≤ n ∧ n ≤ 127 := by
  have hmin : IntKind.i8.min = -128 := rfl
  have hmax : IntKind.i8.max = 127 := rfl
  simp only [Lit.wf, Bool.and_eq_true, decide_eq_true_eq] at h
  omega
section
variable (A : Option Addr) (cap : Nat) (xss : List (List Int)) (q1 q2 : Nat) (by_ : Int) (w : World) (hm : AM w A xss.length xss)
include hm
set_option maxRecDepth 100000 in
set_option maxHeartbeats 4000000 in
theorem iro_no (h : ¬ szB xss 12) : Calls Try.prog 3 #[.slice A xss.length cap, .int .u8 (q1 : Nat), .int .u8 (q2 : Nat), .int .i8 by_] w fun e w' => e = .returned (.bool true) ∧ Below w.heap.size w w' := by
  have HM_0 := Lib.hid hm
  have HD := Lib.hid (decide_eq_false h)
  clear hm h
  go_enter Try.func3, Try.ntmps3
  go_wp2_with fail
  refine (awake26 w).mono ?_
  rintro e w1 ⟨rfl, hb⟩
  have HM_1 := Lib.hid (HM_0.out.call hb)
  have HB_1 := Lib.hid hb
  clear hb HM_0
  go_wp2_with fail
  refine (size_any (cap := cap) HM_1.out 12).mono ?_
  rintro e w_ ⟨rfl, rfl⟩
  rw [HD.out]
  go_wp2_with fail
  go_ret
  exact ⟨rfl, HB_1.out⟩
set_option maxRecDepth 100000 in
set_option maxHeartbeats 4000000 in
theorem iro_one (h : szB xss 12) (h2 : xss.length < 2) : Calls Try.prog 3 #[.slice A xss.length cap, .int .u8 (q1 : Nat), .int .u8 (q2 : Nat), .int .i8 by_] w fun e w' => e = .returned (.bool true) ∧ Below w.heap.size w w' := by
  have HM_0 := Lib.hid hm
  obtain ⟨n, hn⟩ : ∃ n, xss.length = n := ⟨_, rfl⟩
  obtain ⟨c, hc⟩ : ∃ c, rowL xss 0 = c := ⟨_, rfl⟩
  have HD := Lib.hid (decide_eq_true h)
  have HSH : Hid (shp xss = (c : Nat)) := by unfold shp; rw [if_pos h.1, hc]; exact rfl
  have HIM := Lib.hid h.1
  have HLN := Lib.hid hn
  have HC := Lib.hid hc
  have hn12 : n ≤ 12 := by have := h.2.2; omega
  have hc12 : c ≤ 12 := by have := h.2.1; omega
  rw [hn] at HM_0 ⊢
  have g1 : (n : Int) < 2 := by omega
  clear hm h h2 hn hc
  go_enter Try.func3, Try.ntmps3
  go_wp2_with fail
  refine (awake26 w).mono ?_
  rintro e w1 ⟨rfl, hb⟩
  have HM_1 := Lib.hid (HM_0.out.call hb)
  have HB_1 := Lib.hid hb
  clear hb HM_0
  go_wp2_with fail
  refine (size_any (cap := cap) HM_1.out 12).mono ?_
  rintro e w_ ⟨rfl, rfl⟩
  rw [HD.out, HSH.out]
  go_wp2_with fail
  go_ret
  exact ⟨rfl, HB_1.out⟩
set_option maxRecDepth 100000 in
set_option maxHeartbeats 4000000 in
theorem iro_ns (h : szB xss 12) (h2 : ¬ xss.length < 2) (hs : ¬ Sml xss) : Calls Try.prog 3 #[.slice A xss.length cap, .int .u8 (q1 : Nat), .int .u8 (q2 : Nat), .int .i8 by_] w fun e w' => e = .returned (.bool true) ∧ Below w.heap.size w w' := by
  have HM_0 := Lib.hid hm
  obtain ⟨n, hn⟩ : ∃ n, xss.length = n := ⟨_, rfl⟩
  obtain ⟨c, hc⟩ : ∃ c, rowL xss 0 = c := ⟨_, rfl⟩
  have HD := Lib.hid (decide_eq_true h)
  have HSH : Hid (shp xss = (c : Nat)) := by unfold shp; rw [if_pos h.1, hc]; exact rfl
  have HIM := Lib.hid h.1
  have HLN := Lib.hid hn
  have HC := Lib.hid hc
  have hn12 : n ≤ 12 := by have := h.2.2; omega
  have hc12 : c ≤ 12 := by have := h.2.1; omega
  rw [hn] at HM_0 ⊢
  have g1 : ¬ (n : Int) < 2 := by omega
  have HSM := Lib.hid (decide_eq_false hs)
  clear hm h h2 hs hn hc
  go_enter Try.func3, Try.ntmps3
  go_wp2_with fail
  refine (awake26 w).mono ?_
  rintro e w1 ⟨rfl, hb⟩
  have HM_1 := Lib.hid (HM_0.out.call hb)
  have HB_1 := Lib.hid hb
  clear hb HM_0
  go_wp2_with fail
  refine (size_any (cap := cap) HM_1.out 12).mono ?_
  rintro e w_ ⟨rfl, rfl⟩
  rw [HD.out, HSH.out]
  go_wp2_with fail
  refine (rsmall_any (cap := cap) HM_1.out HIM.out false HSM.out).mono ?_
  rintro e w_ ⟨rfl, rfl⟩
  go_wp2_with fail
  go_ret
  exact ⟨rfl, HB_1.out⟩
set_option maxRecDepth 100000 in
set_option maxHeartbeats 4000000 in
theorem iro_same (hq1 : q1 ≤ 255) (hq2 : q2 ≤ 255) (h : szB xss 12) (h2 : ¬ xss.length < 2) (hs : Sml xss) (he : q1 % xss.length = q2 % xss.length) : Calls Try.prog 3 #[.slice A xss.length cap, .int .u8 (q1 : Nat), .int .u8 (q2 : Nat), .int .i8 by_] w fun e w' => e = .returned (.bool true) ∧ Below w.heap.size w w' := by
  have HM_0 := Lib.hid hm
  obtain ⟨n, hn⟩ : ∃ n, xss.length = n := ⟨_, rfl⟩
  obtain ⟨c, hc⟩ : ∃ c, rowL xss 0 = c := ⟨_, rfl⟩
  have HD := Lib.hid (decide_eq_true h)
  have HSH : Hid (shp xss = (c : Nat)) := by unfold shp; rw [if_pos h.1, hc]; exact rfl
  have HIM := Lib.hid h.1
  have HLN := Lib.hid hn
  have HC := Lib.hid hc
  have hn12 : n ≤ 12 := by have := h.2.2; omega
  have hc12 : c ≤ 12 := by have := h.2.1; omega
  rw [hn] at HM_0 ⊢
  have g1 : ¬ (n : Int) < 2 := by omega
  have HSM := Lib.hid (decide_eq_true hs)
  obtain ⟨i, hi⟩ : ∃ i, q1 % n = i := ⟨_, rfl⟩
  obtain ⟨k, hk⟩ : ∃ k, q2 % n = k := ⟨_, rfl⟩
  have hin : i < n := by rw [← hi]; exact Nat.mod_lt _ (by omega)
  have hkn : k < n := by rw [← hk]; exact Nat.mod_lt _ (by omega)
  have x0 : ¬ (n : Int) = 0 := by omega
  have x1 : IntKind.i64.wrap (q1 : Int) = (q1 : Int) := IntWalk.i64_in _ (by omega)
  have x2 : IntKind.i64.wrap (q2 : Int) = (q2 : Int) := IntWalk.i64_in _ (by omega)
  have x3 : (q1 : Int).tmod (n : Int) = (i : Int) := by rw [← hi]; exact Int.ofNat_tmod q1 n
  have x3' : (q1 : Int) % (n : Int) = (i : Int) := by rw [← hi]; rfl
  have x4 : (q2 : Int).tmod (n : Int) = (k : Int) := by rw [← hk]; exact Int.ofNat_tmod q2 n
  have x4' : (q2 : Int) % (n : Int) = (k : Int) := by rw [← hk]; rfl
  have x5 : IntKind.i64.wrap (i : Int) = (i : Int) := IntWalk.i64_in _ (by omega)
  have x6 : IntKind.i64.wrap (k : Int) = (k : Int) := IntWalk.i64_in _ (by omega)
  have g2 : ((i : Int) == (k : Int)) = true := by rw [beq_iff_eq, ← hi, ← hk, ← hn, he]
  clear hm h h2 hs hn hc hi hk he hq1 hq2
  go_enter Try.func3, Try.ntmps3
  go_wp2_with fail
  refine (awake26 w).mono ?_
  rintro e w1 ⟨rfl, hb⟩
  have HM_1 := Lib.hid (HM_0.out.call hb)
  have HB_1 := Lib.hid hb
  clear hb HM_0
  go_wp2_with fail
  refine (size_any (cap := cap) HM_1.out 12).mono ?_
  rintro e w_ ⟨rfl, rfl⟩
  rw [HD.out, HSH.out]
  go_wp2_with fail
  refine (rsmall_any (cap := cap) HM_1.out HIM.out true HSM.out).mono ?_
  rintro e w_ ⟨rfl, rfl⟩
  go_wp2_with fail
  go_quiet (fail)
  go_wp2_with fail
  go_ret
  exact ⟨rfl, below_drewN HB_1.out nq⟩
set_option maxRecDepth 100000 in
set_option maxHeartbeats 16000000 in
theorem iro_ok (hq1 : q1 ≤ 255) (hq2 : q2 ≤ 255) (hby : -128 ≤ by_ ∧ by_ ≤ 127) (h : szB xss 12) (h2 : ¬ xss.length < 2) (hs : Sml xss) (he : q1 % xss.length ≠ q2 % xss.length) : Calls Try.prog 3 #[.slice A xss.length cap, .int .u8 (q1 : Nat), .int .u8 (q2 : Nat), .int .i8 by_] w fun e w' => e = .returned (.bool true) ∧ Below w.heap.size w w' := by
  have HM_0 := Lib.hid hm
  obtain ⟨n, hn⟩ : ∃ n, xss.length = n := ⟨_, rfl⟩
  obtain ⟨c, hc⟩ : ∃ c, rowL xss 0 = c := ⟨_, rfl⟩
  have HD := Lib.hid (decide_eq_true h)
  have HSH : Hid (shp xss = (c : Nat)) := by unfold shp; rw [if_pos h.1, hc]; exact rfl
  have HIM := Lib.hid h.1
  have HLN := Lib.hid hn
  have HC := Lib.hid hc
  have hn12 : n ≤ 12 := by have := h.2.2; omega
  have hc12 : c ≤ 12 := by have := h.2.1; omega
  rw [hn] at HM_0 ⊢
  have g1 : ¬ (n : Int) < 2 := by omega
  have HSM := Lib.hid (decide_eq_true hs)
  obtain ⟨i, hi⟩ : ∃ i, q1 % n = i := ⟨_, rfl⟩
  obtain ⟨k, hk⟩ : ∃ k, q2 % n = k := ⟨_, rfl⟩
  have hin : i < n := by rw [← hi]; exact Nat.mod_lt _ (by omega)
  have hkn : k < n := by rw [← hk]; exact Nat.mod_lt _ (by omega)
  have x0 : ¬ (n : Int) = 0 := by omega
  have x1 : IntKind.i64.wrap (q1 : Int) = (q1 : Int) := IntWalk.i64_in _ (by omega)
  have x2 : IntKind.i64.wrap (q2 : Int) = (q2 : Int) := IntWalk.i64_in _ (by omega)
  have x3 : (q1 : Int).tmod (n : Int) = (i : Int) := by rw [← hi]; exact Int.ofNat_tmod q1 n
  have x3' : (q1 : Int) % (n : Int) = (i : Int) := by rw [← hi]; rfl
  have x4 : (q2 : Int).tmod (n : Int) = (k : Int) := by rw [← hk]; exact Int.ofNat_tmod q2 n
  have x4' : (q2 : Int) % (n : Int) = (k : Int) := by rw [← hk]; rfl
  have x5 : IntKind.i64.wrap (i : Int) = (i : Int) := IntWalk.i64_in _ (by omega)
  have x6 : IntKind.i64.wrap (k : Int) = (k : Int) := IntWalk.i64_in _ (by omega)
  have hik : i ≠ k := fun e => he (by rw [hn, hi, hk, e])
  have g2 : ((i : Int) == (k : Int)) = false := by rw [beq_eq_false_iff_ne]; omega
  have HBN : Hid (bndM n c (eI xss) ≤ 1125899906842624) := by have := hs.lt; rw [hn, hc] at this; exact this
  have HBY := Lib.hid hby
  have hk' : k < xss.length := by omega
  have hi' : i < xss.length := by omega
  obtain ⟨d, hd⟩ := smD_ex xss
  have HSD := Lib.hid hd
  have HSDD : Hid (SmD (adL xss i k by_ c) d) := adL_D hd h.1 hc hi' hk' hik
  have HSDW : Hid (SmD (swL xss i k) d) := swL_D hd h.1 hc hi' hk' hik
  have HIMD : Hid (IsM (adL xss i k by_ c)) := adL_IsM h.1 hc hk'
  have himw : IsM (swL xss i k) := swL_IsM h.1 hc hi' hk'
  have hsw : Sml (swL xss i k) := swL_Sml hs h.1 hc hi' hk' hik
  have hr1 : rowL (adL xss i k by_ c) 0 = c := adL_rowL h.1 hc hk' (by omega)
  have hr2 : rowL (swL xss i k) 0 = c := swL_rowL h.1 hc hi' hk' (by omega)
  have HES := Lib.hid (rkE_0 h.1 hs)
  have HEW := Lib.hid (rkE_0 himw hsw)
  obtain ⟨LL, hLL⟩ : ∃ LL, (List.range (min n c)).map (fun j => (d j : Int)) = LL := ⟨_, rfl⟩
  have HLS : Hid (smL xss d = LL) := by unfold smL; rw [if_pos HES.out, hn, hc]; exact hLL
  have HLW : Hid (smL (swL xss i k) d = LL) := by unfold smL; rw [if_pos HEW.out, swL_len, hr2, hn]; exact hLL
  have HED : Hid (Sml (adL xss i k by_ c) → rkE (adL xss i k by_ c) = 0 ∧ smL (adL xss i k by_ c) d = LL) := fun h2 => by
    have e := rkE_0 HIMD.out h2
    refine ⟨e, ?_⟩
    unfold smL
    rw [if_pos e, adL_len, hr1, hn]
    exact hLL
  have HLM : Hid (LL.length ≤ maxLen) := by rw [← hLL]; show (List.map _ _).length ≤ maxLen; unfold maxLen; simp; omega
  have HSWR : Hid (∀ x y, x < (swL xss i k).length → y < rowL (swL xss i k) x → -9223372036854775808 ≤ eI (swL xss i k) x y ∧ eI (swL xss i k) x y ≤ 9223372036854775807) := fun x y hx hy => by
    rw [swL_len] at hx
    rw [swL_eI hi' hk']
    rw [swL_rowL h.1 hc hi' hk' hx] at hy
    have h1 := bnd_ent (n := n) (c := c) (m := eI xss) (i := swn i k x) (j := y) (by rw [← hn]; exact swn_lt hi' hk' hx) hy
    have h3 := HBN.out
    omega
  have HDE : Hid (n = c → dtE xss = 0 ∧ (Sml (adL xss i k by_ c) → dtE (adL xss i k by_ c) = 0) ∧ dtE (swL xss i k) = 0 ∧ (Sml (adL xss i k by_ c) → dtV (adL xss i k by_ c) = dtV xss) ∧ dtV (swL xss i k) = -dtV xss ∧ True ∧ IntKind.i64.wrap (- -dtV xss) = dtV xss ∧ IntKind.i64.wrap (dtV xss) = dtV xss) := fun e => by
    have e1 : dtE xss = 0 := by unfold dtE; rw [if_pos ⟨h.1, by omega⟩, if_pos hs]
    have e2 : Sml (adL xss i k by_ c) → dtE (adL xss i k by_ c) = 0 := fun h2 => by unfold dtE; rw [if_pos ⟨HIMD.out, by rw [adL_len, hr1]; omega⟩, if_pos h2]
    have e3 : dtE (swL xss i k) = 0 := by unfold dtE; rw [if_pos ⟨himw, by rw [swL_len, hr2]; omega⟩, if_pos hsw]
    have v1 : dtV xss = det n (eI xss) := by unfold dtV; rw [if_pos e1, hn]
    have hb : (dtV xss).natAbs ≤ 1125899906842624 := by
      rw [v1]
      have h3 := HBN.out
      rw [← e] at h3
      exact Nat.le_trans (minor_bound (n := n) (c := n) (k := n) (eI xss) (is := id) (js := id) (fun a b _ _ e => e) (fun a ha => ha) (fun a b _ _ e => e) (fun a ha => ha)) h3
    refine ⟨e1, e2, e3, fun h2 => ?_, ?_, trivial, by rw [Int.neg_neg]; exact IntWalk.i64_in _ (by omega), IntWalk.i64_in _ (by omega)⟩
    · unfold dtV
      rw [if_pos (e2 h2), if_pos e1, adL_len, hn, ← e]
      exact adL_det hn hin hkn hik
    · unfold dtV
      rw [if_pos e3, if_pos e1, swL_len, hn]
      exact swL_det hn hin hkn hik
  clear hm h h2 hs hn hc hi hk he hq1 hq2 hby hd hk' hi' himw hsw hr1 hr2 hLL
  go_enter Try.func3, Try.ntmps3
  go_wp2_with fail
  refine (awake26 w).mono ?_
  rintro e w1 ⟨rfl, hb⟩
  have HM_1 := Lib.hid (HM_0.out.call hb)
  have HB_1 := Lib.hid hb
  clear hb HM_0
  go_wp2_with fail
  refine (size_any (cap := cap) HM_1.out 12).mono ?_
  rintro e w_ ⟨rfl, rfl⟩
  rw [HD.out, HSH.out]
  go_wp2_with fail
  refine (rsmall_any (cap := cap) HM_1.out HIM.out true HSM.out).mono ?_
  rintro e w_ ⟨rfl, rfl⟩
  go_wp2_with fail
  go_quiet (fail)
  have HXa : Hid (AM (w1.drewN nq) A n xss) := HM_1.out.call (below_drewN (Below.refl _ _) nq)
  have HB2 : Hid (Below w.heap.size w (w1.drewN nq)) := below_drewN HB_1.out nq
  clear HM_1 HB_1
  generalize w1.drewN nq = w2 at HXa HB2 ⊢
  obtain ⟨us, hul, huo, hus⟩ := HXa.out.heads
  have HUOa := Lib.hid huo
  have HULa := Lib.hid hul
  have HC0a := Lib.hid hus
  have HUSa : Hid (us = [] ∨ ∃ b off, A = some ⟨b, off, none⟩ ∧ b < (w2.alloc (.cells #[] 28)).heap.size ∧ ∀ j u, us[j]? = some u → (w2.alloc (.cells #[] 28)).cell? ⟨b, off + j, none⟩ = some u) := by
    rcases hus with e | ⟨b, off, e, hb, hc⟩
    · exact .inl e
    · exact .inr ⟨b, off, e, by simp; omega, fun j u hu => (World.cell?_alloc_lt w2 _ ⟨b, off + j, none⟩ hb).trans (hc j u hu)⟩
  have H1Ca := Lib.hid (oneCell_heads huo)
  have HOWa : Hid (OR 28 id (w2.alloc (.cells #[] 28)) w2.heap.size (.slice (some ⟨w2.heap.size, 0, none⟩) 0 0) []) := OR.made (xs := []) w2 w2.heap.size #[] (Nat.le_refl _) (Nat.zero_le _) rfl
  have hsza : w2.heap.size ≤ (w2.alloc (.cells #[] 28)).heap.size := by simp
  have HUBa : Hid (([] : List Value).length + n < 1099511627776) := by show 0 + n < _; omega
  clear hul huo hus
  go_upto_region 10 with (at_builtin; refine appS HOWa.out HULa.out HUSa.out H1Ca.out HUBa.out hsza rfl rfl Try.underlying22 rfl rfl ?_; intro v1 w3 ho hg)
  rw [List.nil_append] at ho
  have hb0 : Below w2.heap.size w2 w3 := ((Below.refl w2.heap.size w2).alloc (Nat.le_refl _) _).grown hg hsza fun k hk => (HOWa.out.lt k hk).1
  have HLa : Hid (LRv w3 w2.heap.size v1 us xss) := LRv.copy (w0 := w2) rfl HLN.out HULa.out HUOa.out hb0 ho
  have HBLa := Lib.hid hb0
  have HNa : Hid (w2.heap.size ≤ w3.heap.size) := hb0.size
  have HOLDa : Hid (∀ j (hj : j < us.length), ∃ A c, us[j] = .slice A (xss.getD j []).length c ∧ (xss.getD j []).length ≤ maxLen ∧ RI w3 (· < w2.heap.size) A (xss.getD j [])) := fun j hj => by
    obtain ⟨Aj, cj, e, hr, hl⟩ := HUOa.out j hj
    exact ⟨Aj, cj, e, hl, hr.below hb0⟩
  clear ho hg hb0 HOWa HUSa H1Ca HUBa hsza
  obtain ⟨ga, ca, e1, hga⟩ : ∃ ga ca, v1 = .slice (some ⟨ga, 0, none⟩) n ca ∧ w2.heap.size ≤ ga ∧ ga < w3.heap.size := by
    obtain ⟨g, c', e, h1, h2, -⟩ := HLa.out.1.block (by have := HULa.out; omega)
    exact ⟨g, c', by rw [e, HULa.out], h1, h2⟩
  subst e1
  have HS0 : Hid (AdS (w3.setCell ⟨ga, k, none⟩ (.slice none 0 0)) w2.heap.size k (.slice (some ⟨ga, 0, none⟩) n ca) (.slice none 0 0) xss (adR xss i k by_ 0)) := by
    have h := HLa.out
    rw [← HLN.out] at h ⊢
    exact AdS.start h HOLDa.out (by rw [HLN.out]; exact hkn) hga.1
  obtain ⟨fa, fk⟩ : (∃ v, w3.cell? ⟨ga, k, none⟩ = some v) ∧ w3.frozen? ⟨ga, k, none⟩ = false := by
    obtain ⟨g, c', e, h1, h2, -, -, h5, h6⟩ := HLa.out.1.block (by have := HULa.out; omega)
    injection e with e _ _
    injection e with e
    injection e with e
    subst e
    exact ⟨⟨_, h5 k (by have := HULa.out; omega)⟩, h6 k⟩
  obtain ⟨vk, fa⟩ := fa
  have HBS : Hid (Below w2.heap.size w2 (w3.setCell ⟨ga, k, none⟩ (.slice none 0 0))) := HBLa.out.setCell hga.1 _
  have hgs : ga < (w3.setCell ⟨ga, k, none⟩ (.slice none 0 0)).heap.size := by rw [World.size_setCell]; exact hga.2
  have hgl := hga.1
  clear hga HLa HBLa HNa HOLDa
  go_wp2_with fail
  clear fa fk
  generalize w3.setCell ⟨ga, k, none⟩ (.slice none 0 0) = w4 at HS0 HBS hgs ⊢
  go_loopw [67] (fun j' wr => ∃ (j : Nat) (u : Value), j ≤ c ∧ j' = .int .i64 j ∧ Hid (AdS wr w2.heap.size k (.slice (some ⟨ga, 0, none⟩) n ca) u xss (adR xss i k by_ j)) ∧ Hid (Below w2.heap.size w2 wr)) (fun j _ => c - (intOf j).toNat)
  case atStart => exact ⟨0, _, Nat.zero_le _, rfl, HS0, HBS⟩
  case round =>
    clear HS0 HBS hgs
    obtain ⟨j, u, hj, rfl, HS, HB⟩ := hrel
    by_cases hlt : j < c
    · obtain ⟨gh, ch, e2, hgb1, hgb2, hne, c4, f4⟩ := HS.out.head (by rw [HLN.out]; exact hkn)
      injection e2 with e2 e2n e3
      injection e2 with e2
      injection e2 with e2 e2o e2p
      subst e2 e3
      clear e2n e2o e2p
      obtain ⟨bm, om, e7, hbm, hcm⟩ := HXa.out.rd.at_ (k := k) (by rw [HLN.out]; exact hkn)
      obtain ⟨Ak, ck, c1, hrk, -⟩ := hcm k (by rw [HLN.out]; exact hkn)
      obtain ⟨Ai, ci, c2, hri, -⟩ := hcm i (by rw [HLN.out]; exact hin)
      subst e7
      have hlk : (xss.getD k []).length = c := by have h := HIM.out.1 k (by rw [HLN.out]; exact hkn); rw [HC.out] at h; exact h
      have hli : (xss.getD i []).length = c := by have h := HIM.out.1 i (by rw [HLN.out]; exact hin); rw [HC.out] at h; exact h
      rw [hlk] at c1
      rw [hli] at c2
      obtain ⟨bk, ok, rfl, hbk, hck⟩ := hrk.at_ (k := j) (by omega)
      obtain ⟨bi, oi, rfl, hbi, hci⟩ := hri.at_ (k := j) (by omega)
      have c5 := hck j (by omega)
      have c6 := hci j (by omega)
      rw [← HB.out.cell (p := ⟨bm, om + k, none⟩) hbm] at c1
      rw [← HB.out.cell (p := ⟨bm, om + i, none⟩) hbm] at c2
      rw [← HB.out.cell (p := ⟨bk, ok + j, none⟩) hbk] at c5
      rw [← HB.out.cell (p := ⟨bi, oi + j, none⟩) hbi] at c6
      have n1 : ga ≠ bm := by have : bm < w2.heap.size := hbm; omega
      have n2 : ga ≠ bk := by have : bk < w2.heap.size := hbk; omega
      have n3 : ga ≠ bi := by have : bi < w2.heap.size := hbi; omega
      have HBM := Lib.hid (And.intro hbm (And.intro hbk hbi))
      obtain ⟨x, hx⟩ : ∃ x, gi (xss.getD k []) j = x := ⟨_, rfl⟩
      obtain ⟨y, hy⟩ : ∃ y, gi (xss.getD i []) j = y := ⟨_, rfl⟩
      rw [hx] at c5
      rw [hy] at c6
      have hxe : eI xss k j = x := hx
      have hye : eI xss i j = y := hy
      have hxb := bnd_ent (n := n) (c := c) (m := eI xss) hkn hlt
      have hyb := bnd_ent (n := n) (c := c) (m := eI xss) hin hlt
      rw [hxe] at hxb
      rw [hye] at hyb
      have hbn := HBN.out
      have hby0 := HBY.out
      have hpb : (by_ * y).natAbs ≤ 128 * 1125899906842624 := by rw [Int.natAbs_mul]; exact Nat.mul_le_mul (by omega) (by omega)
      obtain ⟨p, hp⟩ : ∃ p, by_ * y = p := ⟨_, rfl⟩
      rw [hp] at hpb
      obtain ⟨z, hz⟩ : ∃ z, x + p = z := ⟨_, rfl⟩
      have y0 : IntKind.i64.wrap by_ = by_ := IntWalk.i64_in _ (by omega)
      have y1 : IntKind.i64.wrap (by_ * y) = p := by rw [hp]; exact IntWalk.i64_in _ (by omega)
      have y2 : IntKind.i64.wrap (x + p) = z := by rw [hz]; exact IntWalk.i64_in _ (by omega)
      have HNX : Hid (adR xss i k by_ (j + 1) = adR xss i k by_ j ++ [z]) := by rw [adR_succ, hxe, hye, hp, hz]; exact rfl
      obtain ⟨vs, -, -, -, -, hou⟩ := HS.out
      obtain ⟨Au, cu, rfl, -⟩ := hou.shape
      rw [adR_len] at c4 hne hou HS
      have HOU : Hid (∀ W : World, W.heap = wr.heap → OI W w2.heap.size (.slice Au j cu) (adR xss i k by_ j)) := fun W e => hou.keep fun g _ => by rw [e]
      have HUL : Hid ((adR xss i k by_ j).length < 1099511627776) := by rw [adR_len]; show j < _; omega
      have HNE := Lib.hid hne
      have hN4 := HB.out.size
      clear hcm hbm hbk hbi hrk hri hlk hli hck hci hx hy hxe hye hxb hyb hbn hby0 hpb hp hz hou hne
      go_wp2_with fail
      have HOLD : Hid (∀ w6 : World, (wr.drew.alloc (.cells #[.int .i64 z] 3)).grownBy w6 (Value.slice Au j cu).ownBlock → ∀ b, b < w2.heap.size → w6.heap[b]? = wr.heap[b]?) := fun w6 hg b hb => (hg.block b (by simp; omega) (fun e => by have := ((HOU.out wr rfl).lt b e.symm).1; omega)).trans (Below.heap_alloc _ _ b (by show b < wr.heap.size; omega))
      refine wp_region_held_drew (S := (fun w' => w'.cell? ⟨bm, om + k, none⟩ = some (.slice (some ⟨bk, ok, none⟩) c ck) ∧ w'.cell? ⟨bm, om + i, none⟩ = some (.slice (some ⟨bi, oi, none⟩) c ci) ∧ w'.cell? ⟨bk, ok + j, none⟩ = some (.int .i64 x) ∧ w'.cell? ⟨bi, oi + j, none⟩ = some (.int .i64 y))) (by kernel_rfl) ?_ (fun hHeld => ?_)
      · (try dsimp only); go_keep
      refine wpAnyH_take (i := 0) (oi := ({ dst := some 70, op := Op.move (Operand.tmp 13), type := 22, pos := "law.go:160", after := #[], guard := none })) (v := ?_) rfl (by kernel_rfl) (by kernel_rfl) (by kernel_rfl) (fun _ _ _ h => h) (Or.inl ⟨by rfl, ?_⟩) (by assumption) ?_
      rotate_left
      · ((intro w hSw; (try dsimp only at hSw); go_simp); try (with_reducible rfl))
      (try simp only [Act.put, List.setIfInBounds_toArray, List.set_cons_zero, List.set_cons_succ])
      refine wpAnyH_take (i := 1) (oi := ({ dst := some 71, op := Op.move (Operand.tmp 12), type := 3, pos := "law.go:160", after := #[], guard := none })) (v := ?_) rfl (by kernel_rfl) (by kernel_rfl) (by kernel_rfl) (fun _ _ _ h => h) (Or.inl ⟨by rfl, ?_⟩) (by assumption) ?_
      rotate_left
      · ((intro w hSw; (try dsimp only at hSw); go_simp); try (with_reducible rfl))
      (try simp only [Act.put, List.setIfInBounds_toArray, List.set_cons_zero, List.set_cons_succ])
      refine wpAnyH_take (i := 2) (oi := ({ dst := some 72, op := Op.move (Operand.tmp 13), type := 22, pos := "law.go:160", after := #[], guard := none })) (v := ?_) rfl (by kernel_rfl) (by kernel_rfl) (by kernel_rfl) (fun _ _ _ h => h) (Or.inl ⟨by rfl, ?_⟩) (by assumption) ?_
      rotate_left
      · ((intro w hSw; (try dsimp only at hSw); go_simp); try (with_reducible rfl))
      (try simp only [Act.put, List.setIfInBounds_toArray, List.set_cons_zero, List.set_cons_succ])
      refine wpAnyH_take (i := 3) (oi := ({ dst := some 73, op := Op.move (Operand.tmp 12), type := 3, pos := "law.go:160", after := #[], guard := none })) (v := ?_) rfl (by kernel_rfl) (by kernel_rfl) (by kernel_rfl) (fun _ _ _ h => h) (Or.inl ⟨by rfl, ?_⟩) (by assumption) ?_
      rotate_left
      · ((intro w hSw; (try dsimp only at hSw); go_simp); try (with_reducible rfl))
      (try simp only [Act.put, List.setIfInBounds_toArray, List.set_cons_zero, List.set_cons_succ])
      refine wpAnyH_take (i := 4) (oi := ({ dst := some 74, op := Op.indexAddr 22 (Operand.tmp 72) (Operand.tmp 73), type := 0, pos := "law.go:160", after := #[{ on := 2, ground := Ground.data }, { on := 3, ground := Ground.data }], guard := none })) (v := ?_) rfl (by kernel_rfl) (by kernel_rfl) (by kernel_rfl) (fun _ _ _ h => h) (Or.inl ⟨by rfl, ?_⟩) (by assumption) ?_
      rotate_left
      · ((intro w hSw; (try dsimp only at hSw); go_simp); try (with_reducible rfl))
      (try simp only [Act.put, List.setIfInBounds_toArray, List.set_cons_zero, List.set_cons_succ])
      refine wpAnyH_take (i := 6) (oi := ({ dst := some 76, op := Op.move (Operand.tmp 0), type := 22, pos := "law.go:160", after := #[], guard := none })) (v := ?_) rfl (by kernel_rfl) (by kernel_rfl) (by kernel_rfl) (fun _ _ _ h => h) (Or.inl ⟨by rfl, ?_⟩) (by assumption) ?_
      rotate_left
      · ((intro w hSw; (try dsimp only at hSw); go_simp); try (with_reducible rfl))
      (try simp only [Act.put, List.setIfInBounds_toArray, List.set_cons_zero, List.set_cons_succ])
      refine wpAnyH_take (i := 7) (oi := ({ dst := some 77, op := Op.move (Operand.tmp 12), type := 3, pos := "law.go:160", after := #[], guard := none })) (v := ?_) rfl (by kernel_rfl) (by kernel_rfl) (by kernel_rfl) (fun _ _ _ h => h) (Or.inl ⟨by rfl, ?_⟩) (by assumption) ?_
      rotate_left
      · ((intro w hSw; (try dsimp only at hSw); go_simp); try (with_reducible rfl))
      (try simp only [Act.put, List.setIfInBounds_toArray, List.set_cons_zero, List.set_cons_succ])
      refine wpAnyH_take (i := 8) (oi := ({ dst := some 78, op := Op.indexAddr 22 (Operand.tmp 76) (Operand.tmp 77), type := 0, pos := "law.go:160", after := #[{ on := 6, ground := Ground.data }, { on := 7, ground := Ground.data }], guard := none })) (v := ?_) rfl (by kernel_rfl) (by kernel_rfl) (by kernel_rfl) (fun _ _ _ h => h) (Or.inl ⟨by rfl, ?_⟩) (by assumption) ?_
      rotate_left
      · ((intro w hSw; (try dsimp only at hSw); go_simp); try (with_reducible rfl))
      (try simp only [Act.put, List.setIfInBounds_toArray, List.set_cons_zero, List.set_cons_succ])
      refine wpAnyH_take (i := 9) (oi := ({ dst := some 79, op := Op.load 28 (Operand.tmp 78), type := 28, pos := "law.go:160", after := #[{ on := 8, ground := Ground.data }], guard := none })) (v := ?_) rfl (by kernel_rfl) (by kernel_rfl) (by kernel_rfl) (fun _ _ _ h => h) (Or.inl ⟨by rfl, ?_⟩) (by assumption) ?_
      rotate_left
      · ((intro w hSw; (try dsimp only at hSw); go_simp); try (with_reducible rfl))
      (try simp only [Act.put, List.setIfInBounds_toArray, List.set_cons_zero, List.set_cons_succ])
      refine wpAnyH_take (i := 10) (oi := ({ dst := some 80, op := Op.move (Operand.tmp 14), type := 3, pos := "law.go:160", after := #[], guard := none })) (v := ?_) rfl (by kernel_rfl) (by kernel_rfl) (by kernel_rfl) (fun _ _ _ h => h) (Or.inl ⟨by rfl, ?_⟩) (by assumption) ?_
      rotate_left
      · ((intro w hSw; (try dsimp only at hSw); go_simp); try (with_reducible rfl))
      (try simp only [Act.put, List.setIfInBounds_toArray, List.set_cons_zero, List.set_cons_succ])
      refine wpAnyH_take (i := 11) (oi := ({ dst := some 81, op := Op.indexAddr 28 (Operand.tmp 79) (Operand.tmp 80), type := 0, pos := "law.go:160", after := #[{ on := 9, ground := Ground.data }, { on := 10, ground := Ground.data }], guard := none })) (v := ?_) rfl (by kernel_rfl) (by kernel_rfl) (by kernel_rfl) (fun _ _ _ h => h) (Or.inl ⟨by rfl, ?_⟩) (by assumption) ?_
      rotate_left
      · ((intro w hSw; (try dsimp only at hSw); go_simp); try (with_reducible rfl))
      (try simp only [Act.put, List.setIfInBounds_toArray, List.set_cons_zero, List.set_cons_succ])
      refine wpAnyH_take (i := 12) (oi := ({ dst := some 82, op := Op.load 3 (Operand.tmp 81), type := 3, pos := "law.go:160", after := #[{ on := 11, ground := Ground.data }], guard := none })) (v := ?_) rfl (by kernel_rfl) (by kernel_rfl) (by kernel_rfl) (fun _ _ _ h => h) (Or.inl ⟨by rfl, ?_⟩) (by assumption) ?_
      rotate_left
      · ((intro w hSw; (try dsimp only at hSw); go_simp); try (with_reducible rfl))
      (try simp only [Act.put, List.setIfInBounds_toArray, List.set_cons_zero, List.set_cons_succ])
      refine wpAnyH_take (i := 13) (oi := ({ dst := some 83, op := Op.move (Operand.tmp 3), type := 23, pos := "law.go:160", after := #[], guard := none })) (v := ?_) rfl (by kernel_rfl) (by kernel_rfl) (by kernel_rfl) (fun _ _ _ h => h) (Or.inl ⟨by rfl, ?_⟩) (by assumption) ?_
      rotate_left
      · ((intro w hSw; (try dsimp only at hSw); go_simp); try (with_reducible rfl))
      (try simp only [Act.put, List.setIfInBounds_toArray, List.set_cons_zero, List.set_cons_succ])
      refine wpAnyH_take (i := 14) (oi := ({ dst := some 84, op := Op.convert 23 3 (Operand.tmp 83), type := 3, pos := "law.go:160", after := #[{ on := 13, ground := Ground.data }], guard := none })) (v := ?_) rfl (by kernel_rfl) (by kernel_rfl) (by kernel_rfl) (fun _ _ _ h => h) (Or.inl ⟨by rfl, ?_⟩) (by assumption) ?_
      rotate_left
      · ((intro w hSw; (try dsimp only at hSw); go_simp); try (with_reducible rfl))
      (try simp only [Act.put, List.setIfInBounds_toArray, List.set_cons_zero, List.set_cons_succ])
      refine wpAnyH_take (i := 15) (oi := ({ dst := some 85, op := Op.move (Operand.tmp 0), type := 22, pos := "law.go:160", after := #[], guard := none })) (v := ?_) rfl (by kernel_rfl) (by kernel_rfl) (by kernel_rfl) (fun _ _ _ h => h) (Or.inl ⟨by rfl, ?_⟩) (by assumption) ?_
      rotate_left
      · ((intro w hSw; (try dsimp only at hSw); go_simp); try (with_reducible rfl))
      (try simp only [Act.put, List.setIfInBounds_toArray, List.set_cons_zero, List.set_cons_succ])
      refine wpAnyH_take (i := 16) (oi := ({ dst := some 86, op := Op.move (Operand.tmp 11), type := 3, pos := "law.go:160", after := #[], guard := none })) (v := ?_) rfl (by kernel_rfl) (by kernel_rfl) (by kernel_rfl) (fun _ _ _ h => h) (Or.inl ⟨by rfl, ?_⟩) (by assumption) ?_
      rotate_left
      · ((intro w hSw; (try dsimp only at hSw); go_simp); try (with_reducible rfl))
      (try simp only [Act.put, List.setIfInBounds_toArray, List.set_cons_zero, List.set_cons_succ])
      refine wpAnyH_take (i := 17) (oi := ({ dst := some 87, op := Op.indexAddr 22 (Operand.tmp 85) (Operand.tmp 86), type := 0, pos := "law.go:160", after := #[{ on := 15, ground := Ground.data }, { on := 16, ground := Ground.data }], guard := none })) (v := ?_) rfl (by kernel_rfl) (by kernel_rfl) (by kernel_rfl) (fun _ _ _ h => h) (Or.inl ⟨by rfl, ?_⟩) (by assumption) ?_
      rotate_left
      · ((intro w hSw; (try dsimp only at hSw); go_simp); try (with_reducible rfl))
      (try simp only [Act.put, List.setIfInBounds_toArray, List.set_cons_zero, List.set_cons_succ])
      refine wpAnyH_take (i := 18) (oi := ({ dst := some 88, op := Op.load 28 (Operand.tmp 87), type := 28, pos := "law.go:160", after := #[{ on := 17, ground := Ground.data }], guard := none })) (v := ?_) rfl (by kernel_rfl) (by kernel_rfl) (by kernel_rfl) (fun _ _ _ h => h) (Or.inl ⟨by rfl, ?_⟩) (by assumption) ?_
      rotate_left
      · ((intro w hSw; (try dsimp only at hSw); go_simp); try (with_reducible rfl))
      (try simp only [Act.put, List.setIfInBounds_toArray, List.set_cons_zero, List.set_cons_succ])
      refine wpAnyH_take (i := 19) (oi := ({ dst := some 89, op := Op.move (Operand.tmp 14), type := 3, pos := "law.go:160", after := #[], guard := none })) (v := ?_) rfl (by kernel_rfl) (by kernel_rfl) (by kernel_rfl) (fun _ _ _ h => h) (Or.inl ⟨by rfl, ?_⟩) (by assumption) ?_
      rotate_left
      · ((intro w hSw; (try dsimp only at hSw); go_simp); try (with_reducible rfl))
      (try simp only [Act.put, List.setIfInBounds_toArray, List.set_cons_zero, List.set_cons_succ])
      refine wpAnyH_take (i := 20) (oi := ({ dst := some 90, op := Op.indexAddr 28 (Operand.tmp 88) (Operand.tmp 89), type := 0, pos := "law.go:160", after := #[{ on := 18, ground := Ground.data }, { on := 19, ground := Ground.data }], guard := none })) (v := ?_) rfl (by kernel_rfl) (by kernel_rfl) (by kernel_rfl) (fun _ _ _ h => h) (Or.inl ⟨by rfl, ?_⟩) (by assumption) ?_
      rotate_left
      · ((intro w hSw; (try dsimp only at hSw); go_simp); try (with_reducible rfl))
      (try simp only [Act.put, List.setIfInBounds_toArray, List.set_cons_zero, List.set_cons_succ])
      refine wpAnyH_take (i := 21) (oi := ({ dst := some 91, op := Op.load 3 (Operand.tmp 90), type := 3, pos := "law.go:160", after := #[{ on := 20, ground := Ground.data }], guard := none })) (v := ?_) rfl (by kernel_rfl) (by kernel_rfl) (by kernel_rfl) (fun _ _ _ h => h) (Or.inl ⟨by rfl, ?_⟩) (by assumption) ?_
      rotate_left
      · ((intro w hSw; (try dsimp only at hSw); go_simp); try (with_reducible rfl))
      (try simp only [Act.put, List.setIfInBounds_toArray, List.set_cons_zero, List.set_cons_succ])
      refine wpAnyH_take (i := 22) (oi := ({ dst := some 92, op := Op.binOp BinOp.mul 3 (Operand.tmp 84) (Operand.tmp 91) 3, type := 3, pos := "law.go:160", after := #[{ on := 14, ground := Ground.data }, { on := 21, ground := Ground.data }], guard := none })) (v := ?_) rfl (by kernel_rfl) (by kernel_rfl) (by kernel_rfl) (fun _ _ _ h => h) (Or.inl ⟨by rfl, ?_⟩) (by assumption) ?_
      rotate_left
      · ((intro w hSw; (try dsimp only at hSw); go_simp); try (with_reducible rfl))
      (try simp only [Act.put, List.setIfInBounds_toArray, List.set_cons_zero, List.set_cons_succ])
      refine wpAnyH_take (i := 23) (oi := ({ dst := some 93, op := Op.binOp BinOp.add 3 (Operand.tmp 82) (Operand.tmp 92) 3, type := 3, pos := "law.go:160", after := #[{ on := 12, ground := Ground.data }, { on := 22, ground := Ground.data }], guard := none })) (v := ?_) rfl (by kernel_rfl) (by kernel_rfl) (by kernel_rfl) (fun _ _ _ h => h) (Or.inl ⟨by rfl, ?_⟩) (by assumption) ?_
      rotate_left
      · ((intro w hSw; (try dsimp only at hSw); go_simp); try (with_reducible rfl))
      (try simp only [Act.put, List.setIfInBounds_toArray, List.set_cons_zero, List.set_cons_succ])
      refine wpAnyH_ready (rs := [5, 24]) (by kernel_rfl) (by simp) ?_
      refine (AllReadyH.cons (o := ({ dst := some 75, op := Op.load 28 (Operand.tmp 74), type := 28, pos := "law.go:160", after := #[{ on := 4, ground := Ground.data }], guard := none })) rfl (fun K hK => ?_) (AllReadyH.cons (o := ({ dst := some 94, op := Op.buildSlice 28 1 #[(0, Operand.tmp 93)], type := 28, pos := "law.go:160", after := #[{ on := 23, ground := Ground.data }], guard := none })) rfl (fun K hK => ?_) AllReadyH.nil))
      · go_simp
        refine hK.out _ _ ?_ (fun hHeld => ?_)
        · (try dsimp only); go_keep
        clear hK K
        (try simp only [Act.put, List.setIfInBounds_toArray, List.set_cons_zero, List.set_cons_succ])
        refine wpAnyH_ready (rs := [24]) (by kernel_rfl) (by simp) ?_
        refine AllReadyH.cons (o := ({ dst := some 94, op := Op.buildSlice 28 1 #[(0, Operand.tmp 93)], type := 28, pos := "law.go:160", after := #[{ on := 23, ground := Ground.data }], guard := none })) rfl (fun K hK => ?_) AllReadyH.nil
        go_simp
        refine hK.out _ _ ?_ (fun hHeld => ?_)
        · (try dsimp only); go_keep
        clear hK K
        (try simp only [Act.put, List.setIfInBounds_toArray, List.set_cons_zero, List.set_cons_succ])
        refine wpAnyH_ready (rs := [25]) (by kernel_rfl) (by simp) ?_
        refine AllReadyH.cons (o := ({ dst := some 95, op := Op.call { callee := Callee.builtin Builtin.append, args := #[Operand.tmp 75, Operand.tmp 94], argTypes := #[28, 28] }, type := 28, pos := "law.go:160", after := #[{ on := 5, ground := Ground.data }, { on := 24, ground := Ground.data }], guard := none })) rfl (fun K hK => ?_) AllReadyH.nil
        (refine step_app_rowD (w := wr) (f := Value.int .i64) (y := z) int_info rfl (by decide) rfl (HOU.out _ rfl) HUL.out hN4 rfl rfl Try.underlying28 rfl rfl ?_; intro v6 w6 ho6 hg6 hob6; have hb8 : w6.heap[ga]? = wr.heap[ga]? := ((hg6.block ga (by simp; omega) (fun e => HNE.out e.symm)).trans (Below.heap_alloc _ _ ga hgb2)); have c8 := (World.cell?_of_block (a := ⟨ga, k, none⟩) hb8).trans c4; have f8 := (World.frozen?_of_block (a := ⟨ga, k, none⟩) hb8).trans f4; have d1 := (World.cell?_of_block (a := ⟨bm, om + k, none⟩) (HOLD.out w6 hg6 _ HBM.out.1)).trans c1; have d2 := (World.cell?_of_block (a := ⟨bm, om + i, none⟩) (HOLD.out w6 hg6 _ HBM.out.1)).trans c2; have d5 := (World.cell?_of_block (a := ⟨bk, ok + j, none⟩) (HOLD.out w6 hg6 _ HBM.out.2.1)).trans c5; have d6 := (World.cell?_of_block (a := ⟨bi, oi + j, none⟩) (HOLD.out w6 hg6 _ HBM.out.2.2)).trans c6; have HO6 := Lib.hid ho6; have HG6 := Lib.hid hg6; have HOB6 := Lib.hid hob6; obtain ⟨A6, c6', hv6, -⟩ := ho6.shape; clear ho6 hg6 hob6 hb8; (generalize List.length _ = n6 at hv6); subst hv6)
        refine hK.out _ _ ?_ (fun hHeld => ?_)
        · (try dsimp only); go_keep
        clear hK K
        (try simp only [Act.put, List.setIfInBounds_toArray, List.set_cons_zero, List.set_cons_succ])
        refine wpAnyH_take (i := 26) (oi := ({ dst := some 96, op := Op.indexAddr 22 (Operand.tmp 70) (Operand.tmp 71), type := 0, pos := "law.go:160", after := #[{ on := 0, ground := Ground.data }, { on := 1, ground := Ground.data }, { on := 0, ground := Ground.phase }, { on := 1, ground := Ground.phase }, { on := 2, ground := Ground.phase }, { on := 3, ground := Ground.phase }, { on := 4, ground := Ground.phase }, { on := 5, ground := Ground.phase }, { on := 6, ground := Ground.phase }, { on := 7, ground := Ground.phase }, { on := 8, ground := Ground.phase }, { on := 9, ground := Ground.phase }, { on := 10, ground := Ground.phase }, { on := 11, ground := Ground.phase }, { on := 12, ground := Ground.phase }, { on := 13, ground := Ground.phase }, { on := 14, ground := Ground.phase }, { on := 15, ground := Ground.phase }, { on := 16, ground := Ground.phase }, { on := 17, ground := Ground.phase }, { on := 18, ground := Ground.phase }, { on := 19, ground := Ground.phase }, { on := 20, ground := Ground.phase }, { on := 21, ground := Ground.phase }, { on := 22, ground := Ground.phase }, { on := 23, ground := Ground.phase }, { on := 24, ground := Ground.phase }, { on := 25, ground := Ground.phase }], guard := none })) (v := ?_) rfl (by kernel_rfl) (by kernel_rfl) (by kernel_rfl) (fun _ _ _ h => h) (Or.inl ⟨by rfl, ?_⟩) (by assumption) ?_
        rotate_left
        · ((intro w hSw; (try dsimp only at hSw); go_simp); try (with_reducible rfl))
        (try simp only [Act.put, List.setIfInBounds_toArray, List.set_cons_zero, List.set_cons_succ])
        refine wpAnyH_ready (rs := [27]) (by kernel_rfl) (by simp) ?_
        refine AllReadyH.cons (o := ({ dst := none, op := Op.store 28 (Operand.tmp 96) (Operand.tmp 95), type := 0, pos := "law.go:160", after := #[{ on := 26, ground := Ground.data }, { on := 25, ground := Ground.data }, { on := 25, ground := Ground.chain }, { on := 0, ground := Ground.phase }, { on := 1, ground := Ground.phase }, { on := 2, ground := Ground.phase }, { on := 3, ground := Ground.phase }, { on := 4, ground := Ground.phase }, { on := 5, ground := Ground.phase }, { on := 6, ground := Ground.phase }, { on := 7, ground := Ground.phase }, { on := 8, ground := Ground.phase }, { on := 9, ground := Ground.phase }, { on := 10, ground := Ground.phase }, { on := 11, ground := Ground.phase }, { on := 12, ground := Ground.phase }, { on := 13, ground := Ground.phase }, { on := 14, ground := Ground.phase }, { on := 15, ground := Ground.phase }, { on := 16, ground := Ground.phase }, { on := 17, ground := Ground.phase }, { on := 18, ground := Ground.phase }, { on := 19, ground := Ground.phase }, { on := 20, ground := Ground.phase }, { on := 21, ground := Ground.phase }, { on := 22, ground := Ground.phase }, { on := 23, ground := Ground.phase }, { on := 24, ground := Ground.phase }, { on := 25, ground := Ground.phase }], guard := none })) rfl (fun K hK => ?_) AllReadyH.nil
        go_simp
        refine hK.out _ _ ?_ (fun hHeld => ?_)
        · (try dsimp only); go_keep
        clear hK K
        (try simp only [Act.put, List.setIfInBounds_toArray, List.set_cons_zero, List.set_cons_succ])
        refine wpAnyH_done (by kernel_rfl) ?_ _
        have h0 := (HS.out.heap (w' := wr.drew) rfl)
        rw [← HLN.out] at h0
        have h1 := h0.push (u' := Value.slice A6 n6 c6') (by rw [HLN.out]; exact hkn) hN4 HO6.out HG6.out ⟨hgb1, hgb2⟩ HNE.out HOB6.out
        rw [HLN.out, ← HNX.out] at h1
        have HS2 := Lib.hid h1
        have HB2x : Hid (Below w2.heap.size w2 (w6.setCell ⟨ga, k, none⟩ (Value.slice A6 n6 c6'))) := ((HOU.out wr.drew rfl).grown_below (by exact below_drewN HB.out 1) hN4 _ HG6.out).setCell hgb1 _
        clear h0 h1 HS HO6 HG6 HOB6 HOU HOLD hHeld c8 f8 d1 d2 d5 d6
        go_wp2_with fail
        go_roundw
        case rel => exact ⟨j + 1, _, by omega, by go_num, HS2, HB2x⟩
        case measure => simp [intOf]; omega
      · go_simp
        refine hK.out _ _ ?_ (fun hHeld => ?_)
        · (try dsimp only); go_keep
        clear hK K
        (try simp only [Act.put, List.setIfInBounds_toArray, List.set_cons_zero, List.set_cons_succ])
        refine wpAnyH_ready (rs := [5]) (by kernel_rfl) (by simp) ?_
        refine AllReadyH.cons (o := ({ dst := some 75, op := Op.load 28 (Operand.tmp 74), type := 28, pos := "law.go:160", after := #[{ on := 4, ground := Ground.data }], guard := none })) rfl (fun K hK => ?_) AllReadyH.nil
        go_simp
        refine hK.out _ _ ?_ (fun hHeld => ?_)
        · (try dsimp only); go_keep
        clear hK K
        (try simp only [Act.put, List.setIfInBounds_toArray, List.set_cons_zero, List.set_cons_succ])
        refine wpAnyH_ready (rs := [25]) (by kernel_rfl) (by simp) ?_
        refine AllReadyH.cons (o := ({ dst := some 95, op := Op.call { callee := Callee.builtin Builtin.append, args := #[Operand.tmp 75, Operand.tmp 94], argTypes := #[28, 28] }, type := 28, pos := "law.go:160", after := #[{ on := 5, ground := Ground.data }, { on := 24, ground := Ground.data }], guard := none })) rfl (fun K hK => ?_) AllReadyH.nil
        (refine step_app_rowD (w := wr) (f := Value.int .i64) (y := z) int_info rfl (by decide) rfl (HOU.out _ rfl) HUL.out hN4 rfl rfl Try.underlying28 rfl rfl ?_; intro v6 w6 ho6 hg6 hob6; have hb8 : w6.heap[ga]? = wr.heap[ga]? := ((hg6.block ga (by simp; omega) (fun e => HNE.out e.symm)).trans (Below.heap_alloc _ _ ga hgb2)); have c8 := (World.cell?_of_block (a := ⟨ga, k, none⟩) hb8).trans c4; have f8 := (World.frozen?_of_block (a := ⟨ga, k, none⟩) hb8).trans f4; have d1 := (World.cell?_of_block (a := ⟨bm, om + k, none⟩) (HOLD.out w6 hg6 _ HBM.out.1)).trans c1; have d2 := (World.cell?_of_block (a := ⟨bm, om + i, none⟩) (HOLD.out w6 hg6 _ HBM.out.1)).trans c2; have d5 := (World.cell?_of_block (a := ⟨bk, ok + j, none⟩) (HOLD.out w6 hg6 _ HBM.out.2.1)).trans c5; have d6 := (World.cell?_of_block (a := ⟨bi, oi + j, none⟩) (HOLD.out w6 hg6 _ HBM.out.2.2)).trans c6; have HO6 := Lib.hid ho6; have HG6 := Lib.hid hg6; have HOB6 := Lib.hid hob6; obtain ⟨A6, c6', hv6, -⟩ := ho6.shape; clear ho6 hg6 hob6 hb8; (generalize List.length _ = n6 at hv6); subst hv6)
        refine hK.out _ _ ?_ (fun hHeld => ?_)
        · (try dsimp only); go_keep
        clear hK K
        (try simp only [Act.put, List.setIfInBounds_toArray, List.set_cons_zero, List.set_cons_succ])
        refine wpAnyH_take (i := 26) (oi := ({ dst := some 96, op := Op.indexAddr 22 (Operand.tmp 70) (Operand.tmp 71), type := 0, pos := "law.go:160", after := #[{ on := 0, ground := Ground.data }, { on := 1, ground := Ground.data }, { on := 0, ground := Ground.phase }, { on := 1, ground := Ground.phase }, { on := 2, ground := Ground.phase }, { on := 3, ground := Ground.phase }, { on := 4, ground := Ground.phase }, { on := 5, ground := Ground.phase }, { on := 6, ground := Ground.phase }, { on := 7, ground := Ground.phase }, { on := 8, ground := Ground.phase }, { on := 9, ground := Ground.phase }, { on := 10, ground := Ground.phase }, { on := 11, ground := Ground.phase }, { on := 12, ground := Ground.phase }, { on := 13, ground := Ground.phase }, { on := 14, ground := Ground.phase }, { on := 15, ground := Ground.phase }, { on := 16, ground := Ground.phase }, { on := 17, ground := Ground.phase }, { on := 18, ground := Ground.phase }, { on := 19, ground := Ground.phase }, { on := 20, ground := Ground.phase }, { on := 21, ground := Ground.phase }, { on := 22, ground := Ground.phase }, { on := 23, ground := Ground.phase }, { on := 24, ground := Ground.phase }, { on := 25, ground := Ground.phase }], guard := none })) (v := ?_) rfl (by kernel_rfl) (by kernel_rfl) (by kernel_rfl) (fun _ _ _ h => h) (Or.inl ⟨by rfl, ?_⟩) (by assumption) ?_
        rotate_left
        · ((intro w hSw; (try dsimp only at hSw); go_simp); try (with_reducible rfl))
        (try simp only [Act.put, List.setIfInBounds_toArray, List.set_cons_zero, List.set_cons_succ])
        refine wpAnyH_ready (rs := [27]) (by kernel_rfl) (by simp) ?_
        refine AllReadyH.cons (o := ({ dst := none, op := Op.store 28 (Operand.tmp 96) (Operand.tmp 95), type := 0, pos := "law.go:160", after := #[{ on := 26, ground := Ground.data }, { on := 25, ground := Ground.data }, { on := 25, ground := Ground.chain }, { on := 0, ground := Ground.phase }, { on := 1, ground := Ground.phase }, { on := 2, ground := Ground.phase }, { on := 3, ground := Ground.phase }, { on := 4, ground := Ground.phase }, { on := 5, ground := Ground.phase }, { on := 6, ground := Ground.phase }, { on := 7, ground := Ground.phase }, { on := 8, ground := Ground.phase }, { on := 9, ground := Ground.phase }, { on := 10, ground := Ground.phase }, { on := 11, ground := Ground.phase }, { on := 12, ground := Ground.phase }, { on := 13, ground := Ground.phase }, { on := 14, ground := Ground.phase }, { on := 15, ground := Ground.phase }, { on := 16, ground := Ground.phase }, { on := 17, ground := Ground.phase }, { on := 18, ground := Ground.phase }, { on := 19, ground := Ground.phase }, { on := 20, ground := Ground.phase }, { on := 21, ground := Ground.phase }, { on := 22, ground := Ground.phase }, { on := 23, ground := Ground.phase }, { on := 24, ground := Ground.phase }, { on := 25, ground := Ground.phase }], guard := none })) rfl (fun K hK => ?_) AllReadyH.nil
        go_simp
        refine hK.out _ _ ?_ (fun hHeld => ?_)
        · (try dsimp only); go_keep
        clear hK K
        (try simp only [Act.put, List.setIfInBounds_toArray, List.set_cons_zero, List.set_cons_succ])
        refine wpAnyH_done (by kernel_rfl) ?_ _
        have h0 := (HS.out.heap (w' := wr.drew) rfl)
        rw [← HLN.out] at h0
        have h1 := h0.push (u' := Value.slice A6 n6 c6') (by rw [HLN.out]; exact hkn) hN4 HO6.out HG6.out ⟨hgb1, hgb2⟩ HNE.out HOB6.out
        rw [HLN.out, ← HNX.out] at h1
        have HS2 := Lib.hid h1
        have HB2x : Hid (Below w2.heap.size w2 (w6.setCell ⟨ga, k, none⟩ (Value.slice A6 n6 c6'))) := ((HOU.out wr.drew rfl).grown_below (by exact below_drewN HB.out 1) hN4 _ HG6.out).setCell hgb1 _
        clear h0 h1 HS HO6 HG6 HOB6 HOU HOLD hHeld c8 f8 d1 d2 d5 d6
        go_wp2_with fail
        go_roundw
        case rel => exact ⟨j + 1, _, by omega, by go_num, HS2, HB2x⟩
        case measure => simp [intOf]; omega
    · obtain rfl : j = c := by omega
      obtain ⟨vs, hl⟩ := HS.out.lrv (by rw [HLN.out]; exact hkn)
      have HADR : Hid (∀ x y, x < xss.length → y < rowL (adL xss i k by_ j) x → -9223372036854775808 ≤ eI (adL xss i k by_ j) x y ∧ eI (adL xss i k by_ j) x y ≤ 9223372036854775807) := fun x y hx hy => by
        rw [adL_rowL HIM.out HC.out (by rw [HLN.out]; exact hkn) hx] at hy
        rw [adL_eI (by rw [HLN.out]; exact hkn) hy]
        have h1 := bnd_ent (n := n) (c := j) (m := eI xss) (by rw [← HLN.out]; exact hx) hy
        have h2 := bnd_ent (n := n) (c := j) (m := eI xss) hin hy
        have h3 := HBN.out
        split
        · have h4 : (by_ * eI xss i y).natAbs ≤ 128 * 1125899906842624 := by rw [Int.natAbs_mul]; exact Nat.mul_le_mul (by have := HBY.out; omega) (by omega)
          omega
        · omega
      obtain ⟨Aa, ca2, e3, ham⟩ := hl.am HB.out.size (fun x y hx hy => HADR.out x y (by have := adL_len (xss := xss) (i := i) (k := k) (c := j) (b := by_); unfold adL at this; rwa [this] at hx) hy)
      rw [show (xss.set k (adR xss i k by_ j)).length = n by rw [List.length_set]; exact HLN.out] at e3 ham
      injection e3 with e3 e3n e3c
      subst e3c e3
      clear e3n
      have HAD : Hid (AM wr (some ⟨ga, 0, none⟩) n (adL xss i k by_ j)) := ham
      have HB5 : Hid (Below w.heap.size w wr) := below_cons HB2.out HB.out
      have HXb := Lib.hid (HXa.out.call HB.out)
      clear ham hl HS HB HB2 HXa HADR
      obtain ⟨w5, hw5⟩ : ∃ w5, wr = w5 := ⟨_, rfl⟩
      rw [hw5] at HAD HB5 HXb ⊢
      clear hw5
      obtain ⟨us5, hul, huo, hus⟩ := HXb.out.heads
      have HUOb := Lib.hid huo
      have HULb := Lib.hid hul
      have HC0b := Lib.hid hus
      have HUSb : Hid (us5 = [] ∨ ∃ b off, A = some ⟨b, off, none⟩ ∧ b < (w5.alloc (.cells #[] 28)).heap.size ∧ ∀ j u, us5[j]? = some u → (w5.alloc (.cells #[] 28)).cell? ⟨b, off + j, none⟩ = some u) := by
        rcases hus with e | ⟨b, off, e, hb, hc⟩
        · exact .inl e
        · exact .inr ⟨b, off, e, by simp; omega, fun j u hu => (World.cell?_alloc_lt w5 _ ⟨b, off + j, none⟩ hb).trans (hc j u hu)⟩
      have H1Cb := Lib.hid (oneCell_heads huo)
      have HOWb : Hid (OR 28 id (w5.alloc (.cells #[] 28)) w5.heap.size (.slice (some ⟨w5.heap.size, 0, none⟩) 0 0) []) := OR.made (xs := []) w5 w5.heap.size #[] (Nat.le_refl _) (Nat.zero_le _) rfl
      have hszb : w5.heap.size ≤ (w5.alloc (.cells #[] 28)).heap.size := by simp
      have HUBb : Hid (([] : List Value).length + n < 1099511627776) := by show 0 + n < _; omega
      clear hul huo hus
      go_upto_region 17 with (at_builtin; refine appS HOWb.out HULb.out HUSb.out H1Cb.out HUBb.out hszb rfl rfl Try.underlying22 rfl rfl ?_; intro v5 w6 ho hg)
      rw [List.nil_append] at ho
      have hb0 : Below w5.heap.size w5 w6 := ((Below.refl w5.heap.size w5).alloc (Nat.le_refl _) _).grown hg hszb fun k hk => (HOWb.out.lt k hk).1
      have HLb : Hid (LRv w6 w5.heap.size v5 us5 xss) := LRv.copy (w0 := w5) rfl HLN.out HULb.out HUOb.out hb0 ho
      have HBLb := Lib.hid hb0
      have HNb : Hid (w5.heap.size ≤ w6.heap.size) := hb0.size
      have HOLDb : Hid (∀ j (hj : j < us5.length), ∃ A c, us5[j] = .slice A (xss.getD j []).length c ∧ (xss.getD j []).length ≤ maxLen ∧ RI w6 (· < w5.heap.size) A (xss.getD j [])) := fun j hj => by
        obtain ⟨Aj, cj, e, hr, hl⟩ := HUOb.out j hj
        exact ⟨Aj, cj, e, hl, hr.below hb0⟩
      clear ho hg hb0 HOWb HUSb H1Cb HUBb hszb
      have hlen0 : 0 < us5.length := by have := HULb.out; omega
      have hC0 := HC0b.out
      rcases hC0 with e | ⟨bm, om, rfl, hbm, hcm⟩
      · rw [e] at hlen0; exact absurd hlen0 (Nat.lt_irrefl _)
      · obtain ⟨gs, cs, e1, g1s, g2s, -, -, hcs, hfs⟩ := HLb.out.1.block hlen0
        rw [HULb.out] at e1
        subst e1
        obtain ⟨ui, hui⟩ : ∃ u, us5[i]? = some u := ⟨_, List.getElem?_eq_getElem (by have := HULb.out; omega)⟩
        obtain ⟨uk, huk⟩ : ∃ u, us5[k]? = some u := ⟨_, List.getElem?_eq_getElem (by have := HULb.out; omega)⟩
        have m1 : w6.cell? ⟨bm, om + k, none⟩ = some uk := (HBLb.out.cell (p := ⟨bm, om + k, none⟩) hbm).trans (hcm k uk huk)
        have m2 : w6.cell? ⟨bm, om + i, none⟩ = some ui := (HBLb.out.cell (p := ⟨bm, om + i, none⟩) hbm).trans (hcm i ui hui)
        have s1 : w6.cell? ⟨gs, i, none⟩ = some ui := by
          have h := hcs i (by have := HULb.out; omega)
          rw [List.getElem?_eq_getElem (by have := HULb.out; omega)] at hui
          injection hui with hui
          rw [h, id, hui]
        have s2 : w6.cell? ⟨gs, k, none⟩ = some uk := by
          have h := hcs k (by have := HULb.out; omega)
          rw [List.getElem?_eq_getElem (by have := HULb.out; omega)] at huk
          injection huk with huk
          rw [h, id, huk]
        have f1 := hfs i
        have f2 := hfs k
        have s3 : ∀ (v : Value) (m : Nat), ((w6.drewN m).setCell ⟨gs, i, none⟩ v).cell? ⟨gs, k, none⟩ = some uk := fun v m => (set_other (by intro e; injection e with _ e; exact hik e)).trans s2
        have h0 := HLb.out
        rw [← HLN.out] at h0
        obtain ⟨vs', hsw⟩ := h0.swap HOLDb.out (by rw [HLN.out]; exact hin) (by rw [HLN.out]; exact hkn) hui huk g1s
        rw [HLN.out] at hsw
        have HSW := Lib.hid hsw
        have HBW : Hid (Below w5.heap.size w5 ((w6.setCell ⟨gs, i, none⟩ uk).setCell ⟨gs, k, none⟩ ui)) := (HBLb.out.setCell g1s _).setCell g1s _
        obtain ⟨Ai, ci, hai⟩ : ∃ A c, ui = .slice A j c := by
          obtain ⟨A, c, e, -⟩ := HOLDb.out i (by have := HULb.out; omega)
          rw [List.getElem?_eq_getElem (by have := HULb.out; omega)] at hui
          injection hui with hui
          refine ⟨A, c, by rw [← hui, e]; congr 1; have h := HIM.out.1 i (by rw [HLN.out]; exact hin); rw [HC.out] at h; exact h⟩
        obtain ⟨Ak, ck, hak⟩ : ∃ A c, uk = .slice A j c := by
          obtain ⟨A, c, e, -⟩ := HOLDb.out k (by have := HULb.out; omega)
          rw [List.getElem?_eq_getElem (by have := HULb.out; omega)] at huk
          injection huk with huk
          refine ⟨A, c, by rw [← huk, e]; congr 1; have h := HIM.out.1 k (by rw [HLN.out]; exact hkn); rw [HC.out] at h; exact h⟩
        subst hai hak
        clear h0 hsw hcs hfs hui huk hcm hbm hlen0 HLb HOLDb HBLb HNb HC0b HULb
        go_wp2_with fail
        go_region
        all_goals
          go_wp2_with fail
          have hN6 : w5.heap.size ≤ ((w6.setCell ⟨gs, i, none⟩ (.slice Ak j ck)).setCell ⟨gs, k, none⟩ (.slice Ai j ci)).heap.size := HBW.out.size
          have hbw : Below w5.heap.size w5 ((w6.setCell ⟨gs, i, none⟩ (.slice Ak j ck)).setCell ⟨gs, k, none⟩ (.slice Ai j ci)).drew := by exact below_drewN HBW.out 1
          have HX_7 := Lib.hid (HXb.out.call hbw)
          have HD_7 := Lib.hid (HAD.out.call hbw)
          have HB_7 : Hid (Below w.heap.size w ((w6.setCell ⟨gs, i, none⟩ (.slice Ak j ck)).setCell ⟨gs, k, none⟩ (.slice Ai j ci)).drew) := below_cons HB5.out hbw
          obtain ⟨A8, c8, e8, ha8⟩ := (HSW.out.call hN6 (by exact below_drewN (Below.refl _ _) 1 : Below _ _ ((w6.setCell ⟨gs, i, none⟩ (.slice Ak j ck)).setCell ⟨gs, k, none⟩ (.slice Ai j ci)).drew)).am hN6 HSWR.out
          rw [swL_len, HLN.out] at e8 ha8
          injection e8 with e8 e8n e8c
          subst e8 e8c
          clear e8n
          have HW_7 := Lib.hid ha8
          clear ha8 hN6 hbw HXb HAD HB5 HSW HBW m1 m2 s1 s2 s3 f1 f2 g1s g2s HC0a HUOb HUOa HULa
          generalize ((w6.setCell ⟨gs, i, none⟩ (.slice Ak j ck)).setCell ⟨gs, k, none⟩ (.slice Ai j ci)).drew = w7 at HX_7 HD_7 HB_7 HW_7 ⊢
          by_cases hsa : Sml (adL xss i k by_ j)
          · have HSMD := Lib.hid (decide_eq_true hsa)
            have HSD2 := Lib.hid hsa
            clear hsa
            refine (rsmall_any (cap := ca) HD_7.out HIMD.out true HSMD.out).mono ?_
            rintro e w_ ⟨rfl, rfl⟩
            go_wp2_with fail
            refine (smith_any (cap := cap) HX_7.out HSD.out).mono ?_
            rintro e w8 ⟨V, rfl, hV, hb, -⟩
            have HX_8 := Lib.hid (HX_7.out.call hb)
            have HD_8 := Lib.hid (HD_7.out.call hb)
            have HW_8 := Lib.hid (HW_7.out.call hb)
            have HB_8 := Lib.hid (below_cons HB_7.out hb)
            rw [HLS.out] at hV
            obtain ⟨AS, cS, rfl, -, -, hri⟩ := hV.reads
            have HRS_8 : Hid (RI w8 (· < w8.heap.size) AS LL) := hri.imp fun _ h => h.2
            rw [HES.out]
            clear hV hri
            clear hb HX_7 HD_7 HW_7 HB_7
            go_wp2_with fail
            refine (smith_any (cap := ca) HD_8.out HSDD.out).mono ?_
            rintro e w9 ⟨V, rfl, hV, hb, -⟩
            have HX_9 := Lib.hid (HX_8.out.call hb)
            have HD_9 := Lib.hid (HD_8.out.call hb)
            have HW_9 := Lib.hid (HW_8.out.call hb)
            have HRS_9 := Lib.hid (HRS_8.out.call hb)
            have HB_9 := Lib.hid (below_cons HB_8.out hb)
            rw [(HED.out HSD2.out).2] at hV
            obtain ⟨AP, cP, rfl, -, -, hri⟩ := hV.reads
            have HRP_9 : Hid (RI w9 (· < w9.heap.size) AP LL) := hri.imp fun _ h => h.2
            rw [(HED.out HSD2.out).1]
            clear hV hri
            clear hb HX_8 HD_8 HW_8 HRS_8 HB_8
            go_wp2_with fail
            refine (smith_any (cap := cs) HW_9.out HSDW.out).mono ?_
            rintro e w10 ⟨V, rfl, hV, hb, -⟩
            have HX_10 := Lib.hid (HX_9.out.call hb)
            have HD_10 := Lib.hid (HD_9.out.call hb)
            have HW_10 := Lib.hid (HW_9.out.call hb)
            have HRS_10 := Lib.hid (HRS_9.out.call hb)
            have HRP_10 := Lib.hid (HRP_9.out.call hb)
            have HB_10 := Lib.hid (below_cons HB_9.out hb)
            rw [HLW.out] at hV
            obtain ⟨AQ, cQ, rfl, -, -, hri⟩ := hV.reads
            have HRQ_10 : Hid (RI w10 (· < w10.heap.size) AQ LL) := hri.imp fun _ h => h.2
            rw [HEW.out]
            clear hV hri
            clear hb HX_9 HD_9 HW_9 HRS_9 HRP_9 HB_9
            go_wp2_with fail
            refine (sequal_any AS AP cS cP LL LL w10 _ _ HRS_10.out HRP_10.out HLM.out HLM.out).mono ?_
            rintro e w11 ⟨rfl, hdn⟩
            have hb : Below w10.heap.size w10 w11 := by obtain ⟨nd, rfl⟩ := hdn; exact below_drewN (Below.refl _ _) nd
            have HX_11 := Lib.hid (HX_10.out.call hb)
            have HD_11 := Lib.hid (HD_10.out.call hb)
            have HW_11 := Lib.hid (HW_10.out.call hb)
            have HRS_11 := Lib.hid (HRS_10.out.call hb)
            have HRP_11 := Lib.hid (HRP_10.out.call hb)
            have HRQ_11 := Lib.hid (HRQ_10.out.call hb)
            have HB_11 := Lib.hid (below_cons HB_10.out hb)
            rw [decide_eq_true (rfl : LL = LL)]
            clear hb hdn HX_10 HD_10 HW_10 HRS_10 HRP_10 HRQ_10 HB_10
            go_wp2_with fail
            refine (sequal_any AS AQ cS cQ LL LL w11 _ _ HRS_11.out HRQ_11.out HLM.out HLM.out).mono ?_
            rintro e w12 ⟨rfl, hdn⟩
            have hb : Below w11.heap.size w11 w12 := by obtain ⟨nd, rfl⟩ := hdn; exact below_drewN (Below.refl _ _) nd
            have HX_12 := Lib.hid (HX_11.out.call hb)
            have HD_12 := Lib.hid (HD_11.out.call hb)
            have HW_12 := Lib.hid (HW_11.out.call hb)
            have HRS_12 := Lib.hid (HRS_11.out.call hb)
            have HRP_12 := Lib.hid (HRP_11.out.call hb)
            have HRQ_12 := Lib.hid (HRQ_11.out.call hb)
            have HB_12 := Lib.hid (below_cons HB_11.out hb)
            rw [decide_eq_true (rfl : LL = LL)]
            clear hb hdn HX_11 HD_11 HW_11 HRS_11 HRP_11 HRQ_11 HB_11
            by_cases hnc : n = j
            · have HDT := Lib.hid (HDE.out hnc)
              subst hnc
              have x9 := HDT.out.2.2.2.2.2.2.1
              have x10 := HDT.out.2.2.2.2.2.2.2
              clear HDE
              go_wp2_with fail
              refine (det_any (cap := cap) HX_12.out).mono ?_
              rintro e w13 ⟨rfl, hb⟩
              have HX_13 := Lib.hid (HX_12.out.call hb)
              have HD_13 := Lib.hid (HD_12.out.call hb)
              have HW_13 := Lib.hid (HW_12.out.call hb)
              have HRS_13 := Lib.hid (HRS_12.out.call hb)
              have HRP_13 := Lib.hid (HRP_12.out.call hb)
              have HRQ_13 := Lib.hid (HRQ_12.out.call hb)
              have HB_13 := Lib.hid (below_cons HB_12.out hb)
              rw [HDT.out.1]
              clear hb HX_12 HD_12 HW_12 HRS_12 HRP_12 HRQ_12 HB_12
              go_wp2_with fail
              refine (det_any (cap := ca) HD_13.out).mono ?_
              rintro e w14 ⟨rfl, hb⟩
              have HX_14 := Lib.hid (HX_13.out.call hb)
              have HD_14 := Lib.hid (HD_13.out.call hb)
              have HW_14 := Lib.hid (HW_13.out.call hb)
              have HRS_14 := Lib.hid (HRS_13.out.call hb)
              have HRP_14 := Lib.hid (HRP_13.out.call hb)
              have HRQ_14 := Lib.hid (HRQ_13.out.call hb)
              have HB_14 := Lib.hid (below_cons HB_13.out hb)
              rw [HDT.out.2.1 HSD2.out, HDT.out.2.2.2.1 HSD2.out]
              clear hb HX_13 HD_13 HW_13 HRS_13 HRP_13 HRQ_13 HB_13
              go_wp2_with fail
              refine (det_any (cap := cs) HW_14.out).mono ?_
              rintro e w15 ⟨rfl, hb⟩
              have HX_15 := Lib.hid (HX_14.out.call hb)
              have HD_15 := Lib.hid (HD_14.out.call hb)
              have HW_15 := Lib.hid (HW_14.out.call hb)
              have HRS_15 := Lib.hid (HRS_14.out.call hb)
              have HRP_15 := Lib.hid (HRP_14.out.call hb)
              have HRQ_15 := Lib.hid (HRQ_14.out.call hb)
              have HB_15 := Lib.hid (below_cons HB_14.out hb)
              rw [HDT.out.2.2.1, HDT.out.2.2.2.2.1]
              clear hb HX_14 HD_14 HW_14 HRS_14 HRP_14 HRQ_14 HB_14
              obtain ⟨xv, hxv⟩ : ∃ xv, dtV xss = xv := ⟨_, rfl⟩
              rw [hxv] at x9 x10
              rw [hxv]
              clear hxv HDT
              go_wp2_with fail
              go_ret
              exact ⟨rfl, HB_15.out⟩
            · have hnc' : ((n : Int) != (j : Int)) = true := by rw [bne_iff_ne]; omega
              clear hnc
              go_wp2_with fail
              go_ret
              exact ⟨rfl, HB_12.out⟩
          · have HSMD := Lib.hid (decide_eq_false hsa)
            clear hsa
            refine (rsmall_any (cap := ca) HD_7.out HIMD.out false HSMD.out).mono ?_
            rintro e w_ ⟨rfl, rfl⟩
            go_wp2_with fail
            go_ret
            exact ⟨rfl, HB_7.out⟩
end
theorem intmatrixRows_walk (A : Option Addr) (cap : Nat) (xss : List (List Int)) (a1 a2 a3 : Int) (w : World) (hm : AM w A xss.length xss) (h1 : (Lit.int .u8 a1).wf = true) (h2 : (Lit.int .u8 a2).wf = true) (h3 : (Lit.int .i8 a3).wf = true) : Calls Try.prog 3 #[.slice A xss.length cap, .int .u8 a1, .int .u8 a2, .int .i8 a3] w fun e w' => e = .returned (.bool true) ∧ Below w.heap.size w w' := by
  obtain ⟨g1, g2⟩ := u8_wf h1
  obtain ⟨g3, g4⟩ := u8_wf h2
  obtain ⟨q1, rfl⟩ : ∃ q : Nat, a1 = q := ⟨a1.toNat, by omega⟩
  obtain ⟨q2, rfl⟩ : ∃ q : Nat, a2 = q := ⟨a2.toNat, by omega⟩
  by_cases h : szB xss 12
  · by_cases hn : xss.length < 2
    · exact iro_one A cap xss q1 q2 a3 w hm h hn
    · by_cases hs : Sml xss
      · by_cases he : q1 % xss.length = q2 % xss.length
        · exact iro_same A cap xss q1 q2 a3 w hm (by omega) (by omega) h hn hs he
        · exact iro_ok A cap xss q1 q2 a3 w hm (by omega) (by omega) (i8_wf h3) h hn hs he
      · exact iro_ns A cap xss q1 q2 a3 w hm h hn hs
  · exact iro_no A cap xss q1 q2 a3 w hm h
end Go.Proofs.Ytjlokbolmindgaa

