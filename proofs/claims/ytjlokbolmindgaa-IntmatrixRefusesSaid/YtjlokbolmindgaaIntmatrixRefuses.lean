/-
  The law IntmatrixRefuses, walked: the call returns true and writes nothing that was there.
-/
import Derived.Test.YtjlokbolmindgaaLR
import Derived.Test.YtjlokbolmindgaaMulW
namespace Go.Proofs.Ytjlokbolmindgaa
open Go.RowKit

theorem u8_wf {n : Int} (h : (Lit.int .u8 n).wf = true) : 0 ≤ n ∧ n ≤ 255 := by
  have hmin : IntKind.u8.min = 0 := rfl
  have hmax : IntKind.u8.max = 255 := rfl
  simp only [Lit.wf, Bool.and_eq_true, decide_eq_true_eq] at h
  omega
/-- a matrix with rows of zeros behind it -/
def zapL (xss : List (List Int)) (c k : Nat) : List (List Int) := xss ++ List.replicate k (List.replicate c 0)
theorem zapL_len (xss : List (List Int)) (c k : Nat) : (zapL xss c k).length = xss.length + k := by simp [zapL]
theorem zapL_succ (xss : List (List Int)) (c k : Nat) : zapL xss c (k + 1) = zapL xss c k ++ [List.replicate c 0] := by
  unfold zapL
  rw [List.replicate_succ', List.append_assoc]
theorem zapL_0 (xss : List (List Int)) (c : Nat) : zapL xss c 0 = xss := by simp [zapL]
theorem zapL_row (xss : List (List Int)) (c k i : Nat) : ((zapL xss c k).getD i [] = xss.getD i [] ∧ i < xss.length) ∨ (zapL xss c k).getD i [] = List.replicate c 0 ∨ (zapL xss c k).getD i [] = [] := by
  unfold zapL
  by_cases h : i < xss.length
  · exact .inl ⟨by rw [List.getD_eq_getElem?_getD, List.getD_eq_getElem?_getD, List.getElem?_append_left h], h⟩
  · rw [List.getD_eq_getElem?_getD, List.getElem?_append_right (by omega)]
    by_cases h2 : i - xss.length < k
    · right; left; simp [h2]
    · right; right; simp [h2]
theorem zapL_rg {xss : List (List Int)} {c k : Nat} (h : ∀ i j, i < xss.length → j < rowL xss i → -9223372036854775808 ≤ eI xss i j ∧ eI xss i j ≤ 9223372036854775807) (i j : Nat) (hj : j < rowL (zapL xss c k) i) :
    -9223372036854775808 ≤ eI (zapL xss c k) i j ∧ eI (zapL xss c k) i j ≤ 9223372036854775807 := by
  unfold rowL at hj
  unfold eI
  rcases zapL_row xss c k i with ⟨e, hi⟩ | e | e
  · rw [e] at hj ⊢
    exact h i j hi hj
  · rw [e] at hj ⊢
    rw [gi_replicate (by simpa using hj)]
    omega
  · rw [e] at hj
    exact absurd hj (Nat.not_lt_zero _)
theorem refE {l : List (List Int)} (h : ¬ IsM l) : dtV l = 0 ∧ dtE l = 1 ∧ (∀ r, rkR l r → r = 0) ∧ rkE l = 1 ∧ (∀ d, smL l d = []) ∧ krV l 0 = 0 ∧ krE l 0 = 1 ∧ mlE l l = 1 ∧ mlL l l = [] := by
  have h1 : dtE l = 1 := by unfold dtE; rw [if_neg (fun e => h e.1)]
  have h2 : rkE l = 1 := rkE_1 h
  have h3 : krE l 0 = 1 := by unfold krE; rw [if_neg h]
  have h4 : mlE l l = 1 := by unfold mlE; rw [if_neg (fun e => h e.1)]
  refine ⟨by unfold dtV; rw [if_neg (by rw [h1]; decide)], h1, fun r hr => ?_, h2, fun d => by unfold smL; rw [if_neg (by rw [h2]; decide)], by unfold krV; rw [if_neg (by rw [h3]; decide)], h3, h4, mlL_no h4 (by decide)⟩
  unfold rkR at hr
  rwa [if_neg (by rw [h2]; decide)] at hr
section
variable (A : Option Addr) (cap : Nat) (xss : List (List Int)) (q : Nat) (w : World) (hm : AM w A xss.length xss)
include hm
set_option maxHeartbeats 4000000 in
theorem irf_great (h : 12 < xss.length) : Calls Try.prog 10 #[.slice A xss.length cap, .int .u8 (q : Nat)] w fun e w' => e = .returned (.bool true) ∧ Below w.heap.size w w' := by
  have HM_0 := Lib.hid hm
  have h1 : (12 : Int) < xss.length := by omega
  clear hm h
  go_enter Try.func10, Try.ntmps10
  go_wp2_with fail
  refine (awake26 w).mono ?_
  rintro e w1 ⟨rfl, hb⟩
  have HM_1 := Lib.hid (HM_0.out.call hb)
  have HB_1 := Lib.hid hb
  clear hb HM_0
  go_wp2_with fail
  refine (awake26 w1).mono ?_
  rintro e w2 ⟨rfl, hb⟩
  have HM_2 := Lib.hid (HM_1.out.call hb)
  have HB_2 := Lib.hid (below_cons HB_1.out hb)
  clear hb HM_1 HB_1
  go_wp2_with fail
  go_ret
  exact ⟨rfl, HB_2.out⟩
set_option maxHeartbeats 8000000 in
theorem irf_no (h : ¬ 12 < xss.length) (hnm : ¬ IsM xss) : Calls Try.prog 10 #[.slice A xss.length cap, .int .u8 (q : Nat)] w fun e w' => e = .returned (.bool true) ∧ Below w.heap.size w w' := by
  have HM_0 := Lib.hid hm
  have HRG := Lib.hid hm.rg
  obtain ⟨n, hn⟩ : ∃ n, xss.length = n := ⟨_, rfl⟩
  have hn12 : n ≤ 12 := by omega
  have h1 : ¬ (12 : Int) < (n : Nat) := by omega
  have HLN := Lib.hid hn
  rw [hn] at HM_0 ⊢
  obtain ⟨d, hd⟩ := smD_ex (xss)
  have HSD := Lib.hid hd
  have HEV := Lib.hid (refE hnm)
  have HSH : Hid (shp xss = -1) := if_neg hnm
  clear hm h hn hd hnm
  go_enter Try.func10, Try.ntmps10
  go_wp2_with fail
  refine (awake26 w).mono ?_
  rintro e w1 ⟨rfl, hb⟩
  have HM_1 := Lib.hid (HM_0.out.call hb)
  have HB_1 := Lib.hid hb
  obtain ⟨us, hul, huo, hus⟩ := HM_1.out.heads
  have HUO := Lib.hid huo
  have HUL := Lib.hid hul
  have h1' := oneCell_heads huo
  have HUS : Hid (us = [] ∨ ∃ b off, A = some ⟨b, off, none⟩ ∧ b < (w1.alloc (.cells #[] 28)).heap.size ∧ ∀ j u, us[j]? = some u → (w1.alloc (.cells #[] 28)).cell? ⟨b, off + j, none⟩ = some u) := by
    rcases hus with e | ⟨b, off, e, hb, hc⟩
    · exact .inl e
    · exact .inr ⟨b, off, e, by simp; omega, fun j u hu => (World.cell?_alloc_lt w1 _ ⟨b, off + j, none⟩ hb).trans (hc j u hu)⟩
  have H1C := Lib.hid h1'
  have HOW : Hid (OR 28 id (w1.alloc (.cells #[] 28)) w1.heap.size (.slice (some ⟨w1.heap.size, 0, none⟩) 0 0) []) := OR.made (xs := []) w1 w1.heap.size #[] (Nat.le_refl _) (Nat.zero_le _) rfl
  have hsz : w1.heap.size ≤ (w1.alloc (.cells #[] 28)).heap.size := by simp
  have HUB : Hid (([] : List Value).length + n < 1099511627776) := by show 0 + n < _; omega
  clear hul huo hus h1' 
  clear hb HM_0
  go_wp2_with (at_builtin; refine appS HOW.out HUL.out HUS.out H1C.out HUB.out hsz rfl rfl Try.underlying22 rfl rfl ?_; intro v' w' ho hg)
  rw [List.nil_append] at ho
  have hb0 : Below w1.heap.size w1 w' := ((Below.refl w1.heap.size w1).alloc (Nat.le_refl _) _).grown hg hsz fun k hk => (HOW.out.lt k hk).1
  have HL : Hid (LRv w' w1.heap.size v' us xss) := LRv.copy (w0 := w1) rfl HLN.out HUL.out HUO.out hb0 ho
  have HB0 := Lib.hid hb0
  have HN : Hid (w1.heap.size ≤ w'.heap.size) := hb0.size
  clear ho hg hb0 HOW HUS H1C HUB hsz HUO HUL

  obtain ⟨Al, cl, rfl, ha⟩ := HL.out.am HN.out HRG.out
  rw [HLN.out] at ha ⊢
  have HZ0 := Lib.hid ha
  have HBL : Hid (Below w.heap.size w w') := HB_1.out.trans (HB0.out.mono HB_1.out.size)
  clear ha HL HB0 HN HM_1 HB_1
  go_wp2_with fail
  refine (rshape_any (cap := cl) HZ0.out).mono ?_
  rintro e w_ ⟨rfl, rfl⟩
  rw [HSH.out]
  go_wp2_with fail
  refine (det_any (cap := cl) HZ0.out).mono ?_
  rintro e z1 ⟨rfl, hb⟩
  have HZ1 := Lib.hid (HZ0.out.call hb)
  have HC1 := Lib.hid (below_cons HBL.out hb)
  rw [HEV.out.1, HEV.out.2.1]
  clear hb HZ0 HBL
  go_wp2_with fail
  refine (rank_any (cap := cl) HZ1.out).mono ?_
  rintro e z2 ⟨r, rfl, hr, hb⟩
  have HZ2 := Lib.hid (HZ1.out.call hb)
  have HC2 := Lib.hid (below_cons HC1.out hb)
  obtain rfl := HEV.out.2.2.1 r hr
  rw [HEV.out.2.2.2.1]
  clear hb HZ1 HC1 hr
  go_wp2_with fail
  refine (smith_any (cap := cl) HZ2.out HSD.out).mono ?_
  rintro e z3 ⟨V, rfl, hV, hb, -⟩
  have HZ3 := Lib.hid (HZ2.out.call hb)
  have HC3 := Lib.hid (below_cons HC2.out hb)
  rw [HEV.out.2.2.2.2.1] at hV
  obtain ⟨A2, c2, rfl, -⟩ := hV.shape
  rw [HEV.out.2.2.2.1, List.length_nil]
  clear hb HZ2 HC2 hV
  go_wp2_with fail
  refine (kernel_any (cap := cl) 0 HZ3.out).mono ?_
  rintro e z4 ⟨rfl, hb⟩
  have HZ4 := Lib.hid (HZ3.out.call hb)
  have HC4 := Lib.hid (below_cons HC3.out hb)
  rw [HEV.out.2.2.2.2.2.1, HEV.out.2.2.2.2.2.2.1]
  clear hb HZ3 HC3
  go_wp2_with fail
  refine (mul_any (ca := cl) (cb := cl) HZ4.out HZ4.out).mono ?_
  rintro e z5 ⟨Ap, np, cp, rfl, hp, hb⟩
  have HC5 := Lib.hid (below_cons HC4.out hb)
  rw [HEV.out.2.2.2.2.2.2.2.2] at hp
  obtain rfl : np = 0 := hp.ln.symm
  rw [HEV.out.2.2.2.2.2.2.2.1]
  clear hb HZ4 HC4 hp
  go_wp2_with fail
  go_ret
  exact ⟨rfl, HC5.out⟩
set_option maxHeartbeats 16000000 in
theorem irf_yes (hq : q ≤ 255) (h : ¬ 12 < xss.length) (him : IsM xss) : Calls Try.prog 10 #[.slice A xss.length cap, .int .u8 (q : Nat)] w fun e w' => e = .returned (.bool true) ∧ Below w.heap.size w w' := by
  have HM_0 := Lib.hid hm
  have HRG := Lib.hid hm.rg
  obtain ⟨n, hn⟩ : ∃ n, xss.length = n := ⟨_, rfl⟩
  have hn12 : n ≤ 12 := by omega
  have h1 : ¬ (12 : Int) < (n : Nat) := by omega
  have HLN := Lib.hid hn
  rw [hn] at HM_0 ⊢
  obtain ⟨c, hc⟩ : ∃ c, rowL xss 0 = c := ⟨_, rfl⟩
  have HSH : Hid (shp xss = (c : Nat)) := by unfold shp; rw [if_pos him, hc]; exact rfl
  have hc64 : c ≤ 64 := by have := him.2.2; omega
  obtain ⟨a, ha⟩ : ∃ a, q % 3 = a := ⟨_, rfl⟩
  have ha3 : a < 3 := by omega
  have x1 : IntKind.i64.wrap (q : Int) = (q : Int) := IntWalk.i64_in _ (by omega)
  have x2 : (q : Int).tmod 3 = (a : Int) := by rw [← ha]; exact Int.ofNat_tmod q 3
  have x2' : (q : Int) % 3 = (a : Int) := by rw [← ha]; rfl
  have x3 : IntKind.i64.wrap (a : Int) = (a : Int) := IntWalk.i64_in _ (by omega)
  have x4 : IntKind.i64.wrap (64 + (a : Int)) = 64 + (a : Int) := IntWalk.i64_in _ (by omega)
  have HMW : Hid (AM w A n xss) := HM_0
  clear hm h hn hc him ha hq
  go_enter Try.func10, Try.ntmps10
  go_wp2_with fail
  refine (awake26 w).mono ?_
  rintro e w1 ⟨rfl, hb⟩
  have HM_1 := Lib.hid (HM_0.out.call hb)
  have HB_1 := Lib.hid hb
  obtain ⟨us, hul, huo, hus⟩ := HM_1.out.heads
  have HUO := Lib.hid huo
  have HUL := Lib.hid hul
  have h1' := oneCell_heads huo
  have HUS : Hid (us = [] ∨ ∃ b off, A = some ⟨b, off, none⟩ ∧ b < (w1.alloc (.cells #[] 28)).heap.size ∧ ∀ j u, us[j]? = some u → (w1.alloc (.cells #[] 28)).cell? ⟨b, off + j, none⟩ = some u) := by
    rcases hus with e | ⟨b, off, e, hb, hc⟩
    · exact .inl e
    · exact .inr ⟨b, off, e, by simp; omega, fun j u hu => (World.cell?_alloc_lt w1 _ ⟨b, off + j, none⟩ hb).trans (hc j u hu)⟩
  have H1C := Lib.hid h1'
  have HOW : Hid (OR 28 id (w1.alloc (.cells #[] 28)) w1.heap.size (.slice (some ⟨w1.heap.size, 0, none⟩) 0 0) []) := OR.made (xs := []) w1 w1.heap.size #[] (Nat.le_refl _) (Nat.zero_le _) rfl
  have hsz : w1.heap.size ≤ (w1.alloc (.cells #[] 28)).heap.size := by simp
  have HUB : Hid (([] : List Value).length + n < 1099511627776) := by show 0 + n < _; omega
  clear hul huo hus h1' 
  clear hb HM_0
  go_wp2_with (at_builtin; refine appS HOW.out HUL.out HUS.out H1C.out HUB.out hsz rfl rfl Try.underlying22 rfl rfl ?_; intro v' w' ho hg)
  rw [List.nil_append] at ho
  have hb0 : Below w1.heap.size w1 w' := ((Below.refl w1.heap.size w1).alloc (Nat.le_refl _) _).grown hg hsz fun k hk => (HOW.out.lt k hk).1
  have HL : Hid (LRv w' w1.heap.size v' us xss) := LRv.copy (w0 := w1) rfl HLN.out HUL.out HUO.out hb0 ho
  have HB0 := Lib.hid hb0
  have HN : Hid (w1.heap.size ≤ w'.heap.size) := hb0.size
  clear ho hg hb0 HOW HUS H1C HUB hsz HUO HUL

  obtain ⟨Al, cl, rfl, ha⟩ := HL.out.am HN.out HRG.out
  rw [HLN.out] at ha ⊢
  have HZ0 := Lib.hid ha
  have HBL : Hid (Below w.heap.size w w') := HB_1.out.trans (HB0.out.mono HB_1.out.size)
  clear ha HB0
  go_wp2_with fail
  refine (rshape_any (cap := cl) HZ0.out).mono ?_
  rintro e w_ ⟨rfl, rfl⟩
  rw [HSH.out]
  go_wp2_with fail
  have HL0 : Hid (LRv w' w1.heap.size (.slice Al (n + 0) cl) us (zapL xss c 0)) := by
    rw [zapL_0]
    have := HL.out
    rw [HLN.out] at this
    exact this
  have HS1 := Lib.hid HB_1.out.size
  have HMB := Lib.hid (fun (wr : World) (h : Below w.heap.size w wr) => HMW.out.call h)
  clear HL HZ0 HM_1 HB_1
  go_loopg [5] (70 - n) (fun f l' wr => ∃ (k : Nat) (Al : Option Addr) (cl : Nat) (us : List Value), l' = .slice Al (n + k : Nat) cl ∧ n + k ≤ 67 ∧ 70 - (n + k) ≤ f ∧ Hid (LRv wr w1.heap.size (.slice Al (n + k) cl) us (zapL xss c k)) ∧ Hid (Below w.heap.size w wr) ∧ Hid (w1.heap.size ≤ wr.heap.size))
  case atStart => exact ⟨0, Al, cl, us, rfl, by omega, by omega, HL0, HBL, HN⟩
  case round =>
    clear HL0 HBL HN
    obtain ⟨k, Al2, cl2, us2, rfl, hk67, hkf, HL, HBL, HN⟩ := hrel
    obtain ⟨t, ht⟩ : ∃ t, n + k = t := ⟨_, rfl⟩
    rw [ht] at HL hk67 hkf ⊢
    have HT := Lib.hid ht
    clear ht
    by_cases hle : t ≤ 64 + a
    · have hmk := make_ints 28 Try.underlying28 c (by omega)
      have HSP := Lib.hid (rshape_any (cap := cap) (HMB.out wr HBL.out))
      rw [HSH.out] at HSP
      have g1 : (t : Int) ≤ 64 + (a : Int) := by omega
      have HWR : Hid (Rw (wr.alloc (.cells (Array.replicate c (Value.int .i64 0)) 3)) w1.heap.size (.slice (some ⟨wr.heap.size, 0, none⟩) c c) (List.replicate c 0)) := by
        have := OI.new wr w1.heap.size c HN.out (by unfold maxLen; omega)
        rw [show (List.replicate c (Value.int .i64 0)).toArray = Array.replicate c (Value.int .i64 0) by simp] at this
        exact .inr this
      have HL2 := Lib.hid (HL.out.call HN.out ((Below.refl wr.heap.size wr).alloc (Nat.le_refl _) (.cells (Array.replicate c (Value.int .i64 0)) 3)))
      have HB2 : Hid (Below w.heap.size w (wr.alloc (.cells (Array.replicate c (Value.int .i64 0)) 3))) := HBL.out.alloc HBL.out.size _
      have hN2 : w1.heap.size ≤ (wr.alloc (.cells (Array.replicate c (Value.int .i64 0)) 3)).heap.size := by have := HN.out; simp; omega
      have HSZ : Hid ((wr.alloc (.cells (Array.replicate c (Value.int .i64 0)) 3)).heap.size = wr.heap.size + 1) := Lib.hid (by simp)
      have HUL : Hid (us2.length < 1099511627776) := Lib.hid (by have := HL.out.2.1; rw [zapL_len, HLN.out] at this; have := HT.out; omega)
      clear HL HBL
      go_wp2_with fail
      refine HSP.out.mono ?_
      rintro e w_ ⟨rfl, rfl⟩
      go_wp2_with (at_builtin; refine app_row (f := id) (y := Value.slice (some ⟨wr.heap.size, 0, none⟩) c c) row_info rfl (by decide) rfl HL2.out.1 HUL.out hN2 rfl rfl Try.underlying22 rfl (by rw [HSZ.out]; rfl) ?_; intro v2 w2 ho hg hob)
      have hL3 := HL2.out.push HWR.out hN2 ho hg
      rw [← zapL_succ] at hL3
      have hB3 : Below w.heap.size w w2 := HL2.out.1.mono HS1.out |>.grown_below HB2.out HB2.out.size _ hg
      have hN3 : w1.heap.size ≤ w2.heap.size := Nat.le_trans hN2 (Nat.le_trans (by simp) (hg.size))
      obtain ⟨A3, c3, rfl, -⟩ := ho.shape
      have hlen : (us2 ++ [Value.slice (some ⟨wr.heap.size, 0, none⟩) c c]).length = n + (k + 1) := by
        have := HL2.out.2.1
        rw [zapL_len, HLN.out] at this
        simp
        omega
      rw [hlen] at hL3 ⊢
      have HL3 := Lib.hid hL3
      have HB3 := Lib.hid hB3
      have HN3 := Lib.hid hN3
      clear ho hg hob hL3 hB3 hN3 hlen HL2 HWR HB2 hN2 HUL
      go_roundg (70 - (n + (k + 1)))
      case measure => have := HT.out; omega
      case rel => exact ⟨k + 1, A3, c3, _, rfl, by have := HT.out; omega, Nat.le_refl _, HL3, HB3, HN3⟩
    · have g1 : ¬ (t : Int) ≤ 64 + (a : Int) := by omega
      have hnm : ¬ IsM (zapL xss c k) := fun h => by
        have := h.2.1
        rw [zapL_len, HLN.out] at this
        have := HT.out
        omega
      obtain ⟨d, hd⟩ := smD_ex (zapL xss c k)
      have HSD := Lib.hid hd
      have HEV := Lib.hid (refE hnm)
      obtain ⟨Al, cl, e1, ha⟩ := HL.out.am HN.out (fun i j hi hj => zapL_rg HRG.out i j hj)
      rw [zapL_len, HLN.out, HT.out] at e1 ha
      injection e1 with e1 _ e3
      subst e1 e3
      have HZ0 := Lib.hid ha
      clear ha HL hnm hd
      go_wp2_with fail

      refine (det_any (cap := cl2) HZ0.out).mono ?_
      rintro e z1 ⟨rfl, hb⟩
      have HZ1 := Lib.hid (HZ0.out.call hb)
      have HC1 := Lib.hid (below_cons HBL.out hb)
      rw [HEV.out.1, HEV.out.2.1]
      clear hb HZ0 HBL
      go_wp2_with fail
      refine (rank_any (cap := cl2) HZ1.out).mono ?_
      rintro e z2 ⟨r, rfl, hr, hb⟩
      have HZ2 := Lib.hid (HZ1.out.call hb)
      have HC2 := Lib.hid (below_cons HC1.out hb)
      obtain rfl := HEV.out.2.2.1 r hr
      rw [HEV.out.2.2.2.1]
      clear hb HZ1 HC1 hr
      go_wp2_with fail
      refine (smith_any (cap := cl2) HZ2.out HSD.out).mono ?_
      rintro e z3 ⟨V, rfl, hV, hb, -⟩
      have HZ3 := Lib.hid (HZ2.out.call hb)
      have HC3 := Lib.hid (below_cons HC2.out hb)
      rw [HEV.out.2.2.2.2.1] at hV
      obtain ⟨A2, c2, rfl, -⟩ := hV.shape
      rw [HEV.out.2.2.2.1, List.length_nil]
      clear hb HZ2 HC2 hV
      go_wp2_with fail
      refine (kernel_any (cap := cl2) 0 HZ3.out).mono ?_
      rintro e z4 ⟨rfl, hb⟩
      have HZ4 := Lib.hid (HZ3.out.call hb)
      have HC4 := Lib.hid (below_cons HC3.out hb)
      rw [HEV.out.2.2.2.2.2.1, HEV.out.2.2.2.2.2.2.1]
      clear hb HZ3 HC3
      go_wp2_with fail
      refine (mul_any (ca := cl2) (cb := cl2) HZ4.out HZ4.out).mono ?_
      rintro e z5 ⟨Ap, np, cp, rfl, hp, hb⟩
      have HC5 := Lib.hid (below_cons HC4.out hb)
      rw [HEV.out.2.2.2.2.2.2.2.2] at hp
      obtain rfl : np = 0 := hp.ln.symm
      rw [HEV.out.2.2.2.2.2.2.2.1]
      clear hb HZ4 HC4 hp
      go_wp2_with fail
      go_ret
      exact ⟨rfl, HC5.out⟩
end
theorem intmatrixRefuses_walk (A : Option Addr) (cap : Nat) (xss : List (List Int)) (a1 : Int) (w : World) (hm : AM w A xss.length xss) (h1 : (Lit.int .u8 a1).wf = true) : Calls Try.prog 10 #[.slice A xss.length cap, .int .u8 a1] w fun e w' => e = .returned (.bool true) ∧ Below w.heap.size w w' := by
  obtain ⟨h2, h3⟩ := u8_wf h1
  obtain ⟨q, rfl⟩ : ∃ q : Nat, a1 = q := ⟨a1.toNat, by omega⟩
  by_cases h : 12 < xss.length
  · exact irf_great A cap xss q w hm h
  · by_cases hi : IsM xss
    · exact irf_yes A cap xss q w hm (by omega) h hi
    · exact irf_no A cap xss q w hm h hi
end Go.Proofs.Ytjlokbolmindgaa

