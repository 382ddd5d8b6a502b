/-
  The law SignatureNegates, walked: the call returns true and writes nothing that was there.
-/
import Derived.Test.YteanhbldhaiekaaNeg
namespace Go.Proofs.Yteanhbldhaiekaa
open Go.RowKit

section
variable (A : Option Addr) (ca : Nat) (xa : List (List Int)) (t : Int) (w : World) (ha : AM w A xa.length xa)
include ha
set_option maxHeartbeats 8000000 in
theorem sng_a (h : (boL xa).length ≠ xa.length) : Calls Try.prog 5 #[.slice A xa.length ca, .int .u8 t] w fun e w' => e = .returned (.bool true) ∧ Below w.heap.size w w' := by
  have HM_0 := Lib.hid ha
  have HH := Lib.hid h
  obtain ⟨nm, hnm⟩ : ∃ n, xa.length = n := ⟨_, rfl⟩
  rw [hnm] at HM_0 HH ⊢
  have hm64 := HM_0.out.nl
  unfold maxLen at hm64
  clear ha h hnm
  go_enter Try.func5, Try.ntmps5
  go_wp2_with fail
  refine (awake39 w).mono ?_
  rintro e w1 ⟨rfl, hb⟩
  have HM_1 := Lib.hid (HM_0.out.call hb)
  have HB_1 := Lib.hid hb
  clear hb HM_0
  go_wp2_with fail
  refine (both_any (cap := ca) HM_1.out).mono ?_
  rintro e w2 ⟨A1, n1, c1, rfl, hx, hb⟩
  have HX_2 := Lib.hid hx
  have HB_2 := Lib.hid (below_cons HB_1.out hb)
  have hnx := hx.ln
  clear hb hx HM_1 HB_1
  have z1 : ((n1 : Int) != (nm : Int)) = true := by rw [bne_iff_ne]; intro e; exact HH.out (by omega)
  clear hnx
  go_wp2_with fail
  go_ret
  exact ⟨rfl, HB_2.out⟩
set_option maxHeartbeats 8000000 in
theorem sng_b (ht : 0 ≤ t ∧ t ≤ 255) (h : (boL xa).length = xa.length) : Calls Try.prog 5 #[.slice A xa.length ca, .int .u8 t] w fun e w' => e = .returned (.bool true) ∧ Below w.heap.size w w' := by
  have HM_0 := Lib.hid ha
  have HH := Lib.hid h
  obtain ⟨nm, hnm⟩ : ∃ n, xa.length = n := ⟨_, rfl⟩
  rw [hnm] at HM_0 HH ⊢
  have hm64 := HM_0.out.nl
  unfold maxLen at hm64
  clear ha h hnm
  go_enter Try.func5, Try.ntmps5
  go_wp2_with fail
  refine (awake39 w).mono ?_
  rintro e w1 ⟨rfl, hb⟩
  have HM_1 := Lib.hid (HM_0.out.call hb)
  have HB_1 := Lib.hid hb
  clear hb HM_0
  go_wp2_with fail
  refine (both_any (cap := ca) HM_1.out).mono ?_
  rintro e w2 ⟨A1, n1, c1, rfl, hx, hb⟩
  have HX_2 := Lib.hid hx
  have HB_2 := Lib.hid (below_cons HB_1.out hb)
  have hnx := hx.ln
  clear hb hx HM_1 HB_1
  obtain rfl : n1 = nm := by rw [← hnx]; exact HH.out
  clear hnx
  obtain ⟨hn6, hM, hS, hR⟩ := bo_all xa
  rw [HH.out] at hn6 hR
  obtain ⟨x, hx⟩ : ∃ x, boL xa = x := ⟨_, rfl⟩
  rw [hx] at HX_2 HH hM hS hR
  have HM := Lib.hid (And.intro hM (And.intro hS hR))
  have HALL : Hid (∀ i, i < n1 → rowL x i = n1) := Lib.hid fun i hi => by have := hS.1 i (by rw [HH.out]; exact hi); rw [HH.out] at this; exact this
  obtain ⟨k, hk⟩ : ∃ k : Nat, t.tmod 3 = (k : Int) ∧ k ≤ 2 := ⟨(t.tmod 3).toNat, by rw [Int.tmod_eq_emod_of_nonneg ht.1]; omega⟩
  obtain ⟨hk, hk2⟩ := hk
  have wt : IntKind.i64.wrap t = t := by rw [IntKind.wrap_i64]; omega
  have wk1 : IntKind.i64.wrap ((k : Int) + 1) = (k : Int) + 1 := by rw [IntKind.wrap_i64]; omega
  clear hM hS hR hx ht
  go_wp2_with fail
  clear hk wt wk1
  go_loopw [7, 8, 42] (fun v7 v8 i' wr => ∃ i : Nat, i ≤ n1 ∧ i' = .int .i64 i ∧ Hid (R2 wr w2.heap.size v7 v8 (fMat (fun v => -v) x n1 i) (fMat (fun v => ((k : Int) + 1) * v) x n1 i)) ∧ Hid (Below w2.heap.size w2 wr)) (fun _ _ i _ => n1 - (intOf i).toNat)
  case atStart => exact ⟨0, Nat.zero_le _, rfl, R2.nil _ _, Below.refl _ _⟩
  case round =>
    obtain ⟨i, hi, rfl, HR, HC⟩ := hrel
    by_cases hlt : i < n1
    · have hxr := HX_2.out.call HC.out
      obtain ⟨b1, o1, Ai, ci, rfl, d1, hri⟩ := hxr.head hlt
      rw [HALL.out i hlt] at d1
      have HRI := Lib.hid hri
      clear hxr hri
      obtain ⟨w5, rfl⟩ : ∃ x : World, x = wr := ⟨_, rfl⟩
      have hs5 := HC.out.size
      go_wp2_with fail
      go_loopw [11, 12, 48] (fun v11 v12 j' wr => ∃ j : Nat, j ≤ n1 ∧ j' = .int .i64 j ∧ Hid (O2 wr w5.heap.size v11 v12 (fRow (fun v => -v) x i j) (fRow (fun v => ((k : Int) + 1) * v) x i j)) ∧ Hid (Below w5.heap.size w5 wr)) (fun _ _ j _ => n1 - (intOf j).toNat)
      case atStart => exact ⟨0, Nat.zero_le _, rfl, O2.nil _ _, Below.refl _ _⟩
      case round =>
        obtain ⟨j, hj, rfl, HO, HD⟩ := hrel
        by_cases hltj : j < n1
        · have hri := HRI.out.keep (w' := wr) fun b hb => HD.out.block b hb
          obtain ⟨b3, o3, rfl, hb3, hc3⟩ := hri.at_ (k := j) (by have := HALL.out i hlt; unfold rowL at this; omega)
          have c3 := hc3 j (by have := HALL.out i hlt; unfold rowL at this; omega)
          obtain ⟨y, hy⟩ : ∃ y, gi (x.getD i []) j = y := ⟨_, rfl⟩
          have hye : eI x i j = y := hy
          rw [hy] at c3
          have hyr := HM.out.2.2 i j hlt hltj
          rw [hye] at hyr
          have wy1 : IntKind.i64.wrap (-y) = -y := by rw [IntKind.wrap_i64]; omega
          obtain ⟨y2, hy2⟩ : ∃ y2, ((k : Int) + 1) * y = y2 := ⟨_, rfl⟩
          have wy2 : IntKind.i64.wrap (((k : Int) + 1) * y) = y2 := by
            rw [hy2, IntKind.wrap_i64]
            rcases (show k = 0 ∨ k = 1 ∨ k = 2 by omega) with rfl | rfl | rfl <;> omega
          have HS1 : Hid (fRow (fun v => -v) x i (j + 1) = fRow (fun v => -v) x i j ++ [-y]) := Lib.hid (by rw [fRow_succ, hye])
          have HS2 : Hid (fRow (fun v => ((k : Int) + 1) * v) x i (j + 1) = fRow (fun v => ((k : Int) + 1) * v) x i j ++ [y2]) := Lib.hid (by rw [fRow_succ, hye, hy2])
          have HL1 : Hid ((fRow (fun v => -v) x i j).length < 1099511627776) := Lib.hid (by rw [fRow_len]; omega)
          have HL2 : Hid ((fRow (fun v => ((k : Int) + 1) * v) x i j).length < 1099511627776) := Lib.hid (by rw [fRow_len]; omega)
          have hszr := HD.out.size
          clear hri hc3 hy hye hyr hy2
          go_wp2_with (at_builtin; first
            | (refine app1 HO.out.1 HL1.out hszr rfl rfl Try.underlying33 rfl rfl ?_; intro v' w6 ho hg hob; have HO1 := Lib.hid (HO.out.push ho hg hob); have HD1 := Lib.hid (HO.out.1.grown_below HD.out hszr _ hg); have hs6 := HD1.out.size; clear ho hg hob)
            | (refine app1 HO1.out.2.1 HL2.out hs6 rfl rfl Try.underlying33 rfl rfl ?_; intro v'' w7 ho hg hob; have HO2 := Lib.hid (HO1.out.symm.push ho hg hob).symm; have HD2 := Lib.hid (HO1.out.2.1.grown_below HD1.out hs6 _ hg); clear ho hg hob))
          rw [← HS1.out, ← HS2.out] at HO2
          go_roundw
          case rel => exact ⟨j + 1, by omega, by go_num, HO2, HD2⟩
          case measure => simp [intOf]; omega
        · obtain rfl : j = n1 := by omega
          obtain ⟨Au, cu, hvu, -, -, -⟩ := HO.out.1.shape
          obtain ⟨Bu, du, hvt, -, -, -⟩ := HO.out.2.1.shape
          subst hvu hvt
          have hR2 := HR.out.below HD.out (Nat.le_refl _)
          obtain ⟨vs, hvs⟩ := hR2.1
          obtain ⟨us, hus⟩ := hR2.2
          have HR2 := Lib.hid hR2
          have HV := Lib.hid hvs
          have HVL : Hid (vs.length < 1099511627776) := Lib.hid (by have := hvs.2.2.1; rw [fMat_len] at this; omega)
          have HBW := Lib.hid (HC.out.trans (HD.out.mono hs5))
          have hszw := HBW.out.size
          have HO9 := Lib.hid (HO.out.mono hs5)
          clear hvs hus hR2
          go_wp2_with (at_builtin; first
            | (refine app_row (f := id) (y := Value.slice Au (fRow (fun v => -v) x i j).length cu) row_info rfl (by decide) rfl HV.out.1 HVL.out hszw rfl rfl Try.underlying22 rfl rfl ?_; intro v' w6 ho hg hob; have HR3 := Lib.hid (HR2.out.push HV.out HO9.out.1 ho hg hob); have HO3 := Lib.hid (R2.row HV.out HO9.out.2.1 hg); have HB3 := Lib.hid (HV.out.1.grown_below HBW.out hszw _ hg); have hs6 := HB3.out.size; obtain ⟨us, hus⟩ := HR3.out.2; have HU := Lib.hid hus; have HUL : Hid (us.length < 1099511627776) := Lib.hid (by have := hus.2.2.1; rw [fMat_len] at this; omega); clear ho hg hob hus)
            | (refine app_row (f := id) (y := Value.slice Bu (fRow (fun v => ((k : Int) + 1) * v) x i j).length du) row_info rfl (by decide) rfl HU.out.1 HUL.out hs6 rfl rfl Try.underlying22 rfl rfl ?_; intro v'' w7 ho hg hob; have HR4 := Lib.hid (HR3.out.symm.push HU.out HO3.out ho hg hob).symm; have HB4 := Lib.hid (HU.out.1.grown_below HB3.out hs6 _ hg); clear ho hg hob))
          rw [← fMat_succ, ← fMat_succ] at HR4
          go_roundw
          case rel => exact ⟨i + 1, by omega, by go_num, HR4, HB4⟩
          case measure => simp [intOf]; omega
    · obtain rfl : i = n1 := by omega
      have hrg : ∀ f : Int → Int, (∀ v, -100 ≤ v → v ≤ 100 → -1000 ≤ f v ∧ f v ≤ 1000) → ∀ a b, a < (fMat f x i i).length → b < rowL (fMat f x i i) a → -9223372036854775808 ≤ eI (fMat f x i i) a b ∧ eI (fMat f x i i) a b ≤ 9223372036854775807 := fun f hf a b ha hb => by
        rw [fMat_len] at ha
        rw [fMat_row ha] at hb
        rw [fMat_eI ha hb]
        have := HM.out.2.2 a b ha hb
        have := hf _ this.1 this.2
        omega
      obtain ⟨A7, c7, e7, am7⟩ := HR.out.1.am (hrg _ fun v h1 h2 => by omega)
      obtain ⟨A8, c8, e8, am8⟩ := HR.out.2.am (hrg _ fun v h1 h2 => by rcases (show k = 0 ∨ k = 1 ∨ k = 2 by omega) with rfl | rfl | rfl <;> omega)
      rw [fMat_len] at e7 am7 e8 am8
      subst e7 e8
      have HX_3 := Lib.hid (HX_2.out.call HC.out)
      have HP_3 := Lib.hid am7
      have HQ_3 := Lib.hid am8
      have HB_3 := Lib.hid (below_cons HB_2.out HC.out)
      have HN := Lib.hid (in_neg HH.out HM.out.1 HM.out.2.1)
      obtain ⟨k1, k2⟩ := fMat_ok (f := fun v => ((k : Int) + 1) * v) (x := x) (n := i) (by omega) (by have := HM.out.2.1.2; rw [HH.out] at this; exact this)
      have H2 := Lib.hid (in_09 k1 k2)
      have H1 := Lib.hid (in_09 HM.out.1 HM.out.2.1)
      clear hrg am7 am8 HR HC k1 k2 HX_2 HB_2
      obtain ⟨m1, hm1⟩ : ∃ m1, fMat (fun v => -v) x i i = m1 := ⟨_, rfl⟩
      obtain ⟨m2, hm2⟩ : ∃ m2, fMat (fun v => ((k : Int) + 1) * v) x i i = m2 := ⟨_, rfl⟩
      rw [hm1] at HP_3 HN
      rw [hm2] at HQ_3 H2
      have HM1 := Lib.hid hm1
      have HM2 := Lib.hid hm2
      clear hm1 hm2
      go_wp2_with fail
      refine (inertia_any (cap := c1) HX_3.out).mono ?_
      rintro e w4 ⟨p, q, z, rfl, hA, hb⟩
      have HA := Lib.hid hA
      have HP_4 := Lib.hid (HP_3.out.call hb)
      have HQ_4 := Lib.hid (HQ_3.out.call hb)
      have HB_4 := Lib.hid (below_cons HB_3.out hb)
      clear hA hb HP_3 HQ_3 HB_3 HX_3
      go_wp2_with fail
      refine (inertia_any (cap := c7) HP_4.out).mono ?_
      rintro e w5 ⟨r, s, u, rfl, hA, hb⟩
      have HA1 := Lib.hid hA
      have HQ_5 := Lib.hid (HQ_4.out.call hb)
      have HB_5 := Lib.hid (below_cons HB_4.out hb)
      clear hA hb HP_4 HQ_4 HB_4
      go_wp2_with fail
      refine (inertia_any (cap := c8) HQ_5.out).mono ?_
      rintro e w6 ⟨g, h', v, rfl, hA, hb⟩
      have HA2 := Lib.hid hA
      have HB_6 := Lib.hid (below_cons HB_5.out hb)
      clear hA hb HQ_5 HB_5
      rw [HN.out]
      rcases H1.out with he | he
      · have he1 : inE m1 = 0 := HN.out.trans he
        have hneg : r = q ∧ s = p ∧ u = z := by
          have h1 := HA1.out
          rw [← HM1.out] at h1 he1
          exact inA_neg HH.out HA.out he h1 he1
        obtain ⟨rfl, rfl, rfl⟩ := hneg
        rw [he]
        rcases H2.out with he2 | he2
        · have hmul : g = s ∧ h' = r ∧ v = u := by
            have h1 := HA2.out
            have he3 := he2
            rw [← HM2.out] at h1 he3
            exact inA_mul (by omega) HH.out HA.out he h1 he3
          obtain ⟨rfl, rfl, rfl⟩ := hmul
          rw [he2]
          clear he he1 he2
          go_wp2_with fail
          go_ret
          exact ⟨rfl, HB_6.out⟩
        · rw [he2]
          clear he he1 he2
          go_wp2_with fail
          go_ret
          exact ⟨rfl, HB_6.out⟩
      · rw [he]
        clear he
        go_wp2_with fail
        go_ret
        exact ⟨rfl, HB_6.out⟩
end
theorem signatureNegates_walk (A : Option Addr) (ca : Nat) (xa : List (List Int)) (t : Int) (w : World) (ha : AM w A xa.length xa) (ht : (Lit.int .u8 t).wf = true) : Calls Try.prog 5 #[.slice A xa.length ca, .int .u8 t] w fun e w' => e = .returned (.bool true) ∧ Below w.heap.size w w' := by
  have ht' : 0 ≤ t ∧ t ≤ 255 := by
    have hmin : IntKind.u8.min = 0 := rfl
    have hmax : IntKind.u8.max = 255 := rfl
    simp only [Lit.wf, Bool.and_eq_true, decide_eq_true_eq] at ht
    omega
  by_cases h : (boL xa).length = xa.length
  · exact sng_b A ca xa t w ha ht' h
  · exact sng_a A ca xa t w ha h
end Go.Proofs.Yteanhbldhaiekaa

