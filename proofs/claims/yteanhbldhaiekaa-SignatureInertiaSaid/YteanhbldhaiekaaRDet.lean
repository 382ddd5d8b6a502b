/-
  The contracts of the reference's without and Det.
-/
import Derived.Test.YteanhbldhaiekaaMulM
import Derived.Test.YteanhbldhaiekaaRTr
import Derived.Deep.RegionHeld3
namespace Go.Proofs.Yteanhbldhaiekaa
open Go.RowKit

/-- the first q elements of a row, without the k-th -/
def woL (xss : List (List Int)) (i k q : Nat) : List Int := (List.range (if q ≤ k then q else q - 1)).map fun y => eI xss i (sk k y)
theorem woL_len (xss : List (List Int)) (i k q : Nat) : (woL xss i k q).length = if q ≤ k then q else q - 1 := by simp [woL]
theorem woL_skip (xss : List (List Int)) (i k : Nat) : woL xss i k (k + 1) = woL xss i k k := by
  unfold woL
  rw [if_neg (by omega), if_pos (Nat.le_refl _), Nat.add_sub_cancel]
theorem woL_succ {xss : List (List Int)} {i k q : Nat} (h : q ≠ k) : woL xss i k (q + 1) = woL xss i k q ++ [eI xss i q] := by
  unfold woL
  by_cases hq : q < k
  · rw [if_pos (by omega), if_pos (by omega), List.range_succ, List.map_append]
    have : sk k q = q := by unfold sk; rw [if_pos hq]
    simp [this]
  · obtain ⟨p, rfl⟩ : ∃ p, q = p + 1 := ⟨q - 1, by omega⟩
    rw [if_neg (by omega), if_neg (by omega), Nat.add_sub_cancel, Nat.add_sub_cancel, List.range_succ, List.map_append]
    have : sk k p = p + 1 := by unfold sk; rw [if_neg (by omega)]
    simp [this]
/-- the rows behind the first, i of them -/
def wtL (xss : List (List Int)) (k c i : Nat) : List (List Int) := (List.range i).map fun a => woL xss (a + 1) k c
theorem wtL_len (xss : List (List Int)) (k c i : Nat) : (wtL xss k c i).length = i := by simp [wtL]
theorem wtL_succ (xss : List (List Int)) (k c i : Nat) : wtL xss k c (i + 1) = wtL xss k c i ++ [woL xss (i + 1) k c] := by simp [wtL, List.range_succ]
theorem wtL_mk {xss : List (List Int)} {k n : Nat} (hk : k < n + 1) : wtL xss k (n + 1) n = mkL n n fun a b => eI xss (a + 1) (sk k b) := by
  unfold wtL mkL
  refine List.map_congr_left fun a _ => ?_
  unfold woL
  rw [if_neg (by omega), Nat.add_sub_cancel]
set_option maxHeartbeats 4000000 in
theorem without_any {w : World} {A : Option Addr} {n cap k : Nat} {xss : List (List Int)} (h : AM w A (n + 1) xss) (hr : ∀ i, i < n + 1 → rowL xss i = n + 1) (hn : n ≤ 64) (hk : k < n + 1) :
    Calls Try.prog 80 #[.slice A (n + 1 : Nat) cap, .int .i64 k] w fun e w' => ∃ A' c', e = .returned (.slice A' n c') ∧ AM w' A' n (mkL n n fun a b => eI xss (a + 1) (sk k b)) ∧ Below w.heap.size w w' := by
  have HX := Lib.hid h
  have HRC := Lib.hid hr
  obtain ⟨c, hc⟩ : ∃ c, n + 1 = c := ⟨_, rfl⟩
  have HC := Lib.hid hc
  have hc65 : c ≤ 65 := by omega
  have HMK : Hid (wtL xss k c n = mkL n n fun a b => eI xss (a + 1) (sk k b)) := by rw [← hc]; exact wtL_mk hk
  rw [hc] at HX HRC hk ⊢
  clear h hr hc
  go_enter Try.func80, Try.ntmps80
  go_wp2_with fail
  go_loopw [5, 6] (fun v k' wr => ∃ i : Nat, i + 1 ≤ c ∧ k' = .int .i64 (i + 1 : Nat) ∧ Hid (RR 33 wr w.heap.size (fun _ => False) v (wtL xss k c i)) ∧ Hid (Below w.heap.size w wr)) (fun _ k _ => c - (intOf k).toNat)
  case atStart => exact ⟨0, by omega, rfl, RR.nil _ _ _, Below.refl _ _⟩
  case round =>
    obtain ⟨i, hi, rfl, HR, HB⟩ := hrel
    obtain ⟨i1, hi1⟩ : ∃ i1, i + 1 = i1 := ⟨_, rfl⟩
    rw [hi1] at hi ⊢
    have HI1 := Lib.hid hi1
    clear hi1
    by_cases hlt : i1 < c
    · have hx0 := HX.out.call HB.out
      obtain ⟨b, off, Ak, ck, rfl, c1, hri⟩ := hx0.head hlt
      rw [HRC.out i1 hlt] at c1
      clear hx0 hri c1
      go_wp2_with fail
      obtain ⟨w2, rfl⟩ : ∃ x : World, x = wr := ⟨_, rfl⟩
      have hs2 := HB.out.size
      go_loopw [7, 8] (fun v q' wr => ∃ q : Nat, q ≤ c ∧ q' = .int .i64 q ∧ Hid (OI wr w2.heap.size v (woL xss i1 k q)) ∧ Hid (Below w2.heap.size w2 wr)) (fun _ q _ => c - (intOf q).toNat)
      case atStart => exact ⟨0, Nat.zero_le _, rfl, OR.nil _ _, Below.refl _ _⟩
      case round =>
        obtain ⟨q, hq, rfl, HO, HC2⟩ := hrel
        have hx := HX.out.call (HB.out.trans (HC2.out.mono hs2))
        obtain ⟨b, off, Ak, ck, e7, c1, hri⟩ := hx.head hlt
        injection e7 with e7
        injection e7 with e7 e8 e9
        subst e7 e8
        clear e9
        rw [HRC.out i1 hlt] at c1
        have HRI := Lib.hid hri
        clear hx hri
        by_cases hltq : q < c
        · by_cases hqk : q = k
          · have hqk' : ((q : Int) != (k : Int)) = false := by rw [bne_eq_false_iff_eq]; omega
            have HO2 : Hid (OI wr w2.heap.size u7 (woL xss i1 k (q + 1))) := by
              have h := HO.out
              rw [hqk] at h ⊢
              rw [woL_skip]
              exact h
            clear HO hqk
            go_wp2_with fail
            go_roundw
            case rel => exact ⟨q + 1, by omega, by go_num, HO2, HC2⟩
            case measure => simp [intOf]; omega
          · have hqk' : ((q : Int) != (k : Int)) = true := by rw [bne_iff_ne]; omega
            obtain ⟨bk, ok, rfl, -, hcj⟩ := HRI.out.at_ (k := q) (by show q < rowL xss i1; rw [HRC.out i1 hlt]; exact hltq)
            have c2 := hcj q (by show q < rowL xss i1; rw [HRC.out i1 hlt]; exact hltq)
            obtain ⟨x, hx'⟩ : ∃ x, gi (xss.getD i1 []) q = x := ⟨_, rfl⟩
            rw [hx'] at c2
            have HXE : Hid (eI xss i1 q = x) := hx'
            have HSU := Lib.hid (woL_succ (xss := xss) (i := i1) hqk)
            have HL : Hid ((woL xss i1 k q).length < 1099511627776) := Lib.hid (by rw [woL_len]; split <;> omega)
            have hsz := HC2.out.size
            clear hcj hx' hqk
            go_wp2_with (at_builtin; refine app1 HO.out HL.out hsz rfl rfl Try.underlying33 rfl rfl ?_; intro v' w' ho hg hob)
            have hbn' := HO.out.grown_below HC2.out hsz _ hg
            have HO' : Hid (OI w' w2.heap.size v' (woL xss i1 k (q + 1))) := by
              rw [HSU.out, HXE.out]; exact ho
            go_roundw
            case rel => exact ⟨q + 1, by omega, by go_num, HO', hbn'⟩
            case measure => simp [intOf]; omega
        · obtain rfl : q = c := by omega
          obtain ⟨Au, cu, rfl, -, -, -⟩ := HO.out.shape
          obtain ⟨vs, hvs⟩ := (HR.out.below HC2.out (Nat.le_refl _))
          have HV := Lib.hid hvs
          have hvl : vs.length < 1099511627776 := by have := hvs.2.2.1; rw [wtL_len] at this; have := HI1.out; have := HC.out; omega
          have HVL := Lib.hid hvl
          have HBW := Lib.hid (HB.out.trans (HC2.out.mono hs2))
          have hszw := HBW.out.size
          clear hvs hvl
          go_wp2_with (at_builtin; refine app_row (f := id) (y := Value.slice Au (woL xss i1 k q).length cu) row_info rfl (by decide) rfl HV.out.1 HVL.out hszw rfl rfl Try.underlying22 rfl rfl ?_; intro v' w' ho hg hob)
          have hR := RRv.push (by decide) HV.out (HO.out.mono hs2) (fun _ _ h => h) (fun b hF => hF.elim) ho hg hob
          have HBN := Lib.hid (HV.out.1.grown_below HBW.out hszw _ hg)
          have HR2 : Hid (RR 33 w' w.heap.size (fun _ => False) v' (wtL xss k q (i + 1))) := by
            rw [wtL_succ, HI1.out]; exact ⟨_, hR⟩
          clear ho hg hob hR
          go_roundw
          case rel => exact ⟨i + 1, by have := HI1.out; omega, by rw [HI1.out]; go_num, HR2, HBN⟩
          case measure => simp [intOf]; omega
    · have hin : i = n := by have := HI1.out; have := HC.out; omega
      obtain ⟨A', c', e1, ha⟩ := HR.out.am (fun x y hx hy => by
        rw [hin, HMK.out] at hy ⊢
        rw [wtL_len] at hx
        rw [mkL_rowL (by omega)] at hy
        rw [mkL_eI (by omega) hy]
        exact HX.out.rg _ _ (by have := HC.out; omega) (by rw [HRC.out _ (by have := HC.out; omega), ← HC.out]; exact sk_lt hy))
      rw [wtL_len, hin] at e1 ha
      rw [HMK.out] at ha
      subst e1
      have HA := Lib.hid ha
      clear ha hin HR
      go_wp2_with fail
      go_ret
      exact ⟨A', c', rfl, HA.out, HB.out⟩
theorem sg1_abs (j : Nat) : sg1 j = 1 ∨ sg1 j = -1 := by unfold sg1; split <;> simp
/-- the terms of the expansion -/
def dtT (n : Nat) (m : Mx) (j : Nat) : Int := sg1 j * m 0 j * det n fun i k => m (i + 1) (sk j k)
def rest1 (n : Nat) (m : Mx) : Nat := pN n fun i => rfN (n + 1) m (i + 1)
theorem rest_minor {n j : Nat} (m : Mx) (hj : j < n + 1) : bndM n n (fun i k => m (i + 1) (sk j k)) ≤ rest1 n m := by
  refine pN_le fun i _ => ?_
  show max (sN n fun k => (m (i + 1) (sk j k)).natAbs) 1 ≤ max (sN (n + 1) fun k => (m (i + 1) k).natAbs) 1
  have := sN_sk (fun k => (m (i + 1) k).natAbs) hj
  omega
theorem minor_le {n j : Nat} (m : Mx) (hj : j < n + 1) : (det n fun i k => m (i + 1) (sk j k)).natAbs ≤ rest1 n m :=
  Nat.le_trans (minor_bound (n := n) (c := n) (k := n) (fun i k => m (i + 1) (sk j k)) (is := id) (js := id) (fun _ _ _ _ e => e) (fun _ ha => ha) (fun _ _ _ _ e => e) (fun _ ha => ha)) (rest_minor m hj)
theorem bndM_succ (n : Nat) (m : Mx) : bndM (n + 1) (n + 1) m = rfN (n + 1) m 0 * rest1 n m := pN_succ' n _
theorem dtT_le {n : Nat} (m : Mx) : ∀ k, k ≤ n + 1 → (sI k (dtT n m)).natAbs ≤ (sN k fun j => (m 0 j).natAbs) * rest1 n m
  | 0, _ => Nat.zero_le _
  | k + 1, hk => by
    show (sI k (dtT n m) + dtT n m k).natAbs ≤ ((sN k fun j => (m 0 j).natAbs) + (m 0 k).natAbs) * rest1 n m
    have h1 := dtT_le (n := n) m k (by omega)
    have h2 : (dtT n m k).natAbs ≤ (m 0 k).natAbs * rest1 n m := by
      unfold dtT
      rw [Int.natAbs_mul, Int.natAbs_mul, natAbs_sg1, Nat.one_mul]
      exact Nat.mul_le_mul_left _ (minor_le (n := n) (j := k) m (by omega))
    have h3 := Int.natAbs_add_le (sI k (dtT n m)) (dtT n m k)
    rw [Nat.add_mul]
    omega
theorem dtT_le2 {n : Nat} (m : Mx) {k : Nat} (hk : k ≤ n + 1) : (sI k (dtT n m)).natAbs ≤ bndM (n + 1) (n + 1) m := by
  refine Nat.le_trans (dtT_le m k hk) ?_
  rw [bndM_succ]
  exact Nat.mul_le_mul_right _ (Nat.le_trans (sN_mono hk) (Nat.le_max_left ..))
set_option maxRecDepth 100000 in
set_option maxHeartbeats 8000000 in
theorem rdet_any : ∀ (n : Nat) (w : World) (A : Option Addr) (cap : Nat) (xss : List (List Int)), n ≤ 64 → AM w A n xss → (∀ i, i < n → rowL xss i = n) → bndM n n (eI xss) ≤ 1125899906842624 →
    Calls Try.prog 61 #[.slice A n cap] w fun e w' => e = .returned (.int .i64 (det n (eI xss))) ∧ Below w.heap.size w w'
  | 0, w, A, cap, xss, _, _, _, _ => by
    go_enter Try.func61, Try.ntmps61
    go_wp2_with fail
    go_ret
    exact ⟨rfl, Below.refl _ _⟩
  | n + 1, w, A, cap, xss, hn, h, hr, hb => by
    have IH := Lib.hid (rdet_any n)
    have HX := Lib.hid h
    have HRC := Lib.hid hr
    have HBD := Lib.hid hb
    have HT : Hid (∀ k, k ≤ n + 1 → (sI k (dtT n (eI xss))).natAbs ≤ 1125899906842624) := fun k hk => Nat.le_trans (dtT_le2 (eI xss) hk) hb
    have HR1 : Hid (rest1 n (eI xss) ≤ 1125899906842624) := by
      rw [bndM_succ] at hb
      exact Nat.le_trans (Nat.le_mul_of_pos_left _ (show 0 < rfN (n + 1) (eI xss) 0 by unfold rfN; omega)) hb
    have HM0 : Hid (∀ k, k < n + 1 → (eI xss 0 k).natAbs * rest1 n (eI xss) ≤ 1125899906842624) := fun k hk => by
      rw [bndM_succ] at hb
      exact Nat.le_trans (Nat.mul_le_mul_right _ (Nat.le_trans (sN_ge (f := fun j => (eI xss 0 j).natAbs) hk) (Nat.le_max_left ..))) hb
    obtain ⟨c, hc⟩ : ∃ c, n + 1 = c := ⟨_, rfl⟩
    have HDE : Hid (det c (eI xss) = sI c (dtT n (eI xss))) := by rw [← hc]; exact det_succ n (eI xss)
    have HC := Lib.hid hc
    have hc64 : c ≤ 64 := by omega
    have hcp : 0 < c := by omega
    have hc0 : ((c : Int) == 0) = false := by rw [beq_eq_false_iff_ne]; omega
    rw [hc]
    rw [hc] at HX HRC HT HM0
    clear h hr hb hc hn
    go_enter Try.func61, Try.ntmps61
    go_wp2_with fail
    go_loopw [3, 4, 5] (fun s' g' k' wr => ∃ k : Nat, k ≤ c ∧ k' = .int .i64 k ∧ s' = .int .i64 (sI k (dtT n (eI xss))) ∧ g' = .int .i64 (sg1 k) ∧ Hid (Below w.heap.size w wr)) (fun _ _ k _ => c - (intOf k).toNat)
    case atStart => exact ⟨0, Nat.zero_le _, rfl, rfl, rfl, Below.refl _ _⟩
    case round =>
      obtain ⟨k, hk, rfl, rfl, rfl, HB⟩ := hrel
      by_cases hlt : k < c
      · obtain ⟨b, off, Ak, ck, rfl, c1, hri⟩ := (HX.out.call HB.out).head (k := 0) (by omega)
        rw [HRC.out 0 (by omega)] at c1
        obtain ⟨bk, ok, rfl, -, hcj⟩ := hri.at_ (k := k) (by show k < rowL xss 0; rw [HRC.out 0 (by omega)]; exact hlt)
        have c2 := hcj k (by show k < rowL xss 0; rw [HRC.out 0 (by omega)]; exact hlt)
        rw [Nat.add_zero] at c1
        obtain ⟨x, hx⟩ : ∃ x, gi (xss.getD 0 []) k = x := ⟨_, rfl⟩
        rw [hx] at c2
        have hxe : eI xss 0 k = x := hx
        obtain ⟨S, hS⟩ : ∃ S, sI k (dtT n (eI xss)) = S := ⟨_, rfl⟩
        obtain ⟨g, hg⟩ : ∃ g, sg1 k = g := ⟨_, rfl⟩
        have hg1 := sg1_abs k
        have HGS : Hid (sg1 (k + 1) = -g) := by rw [sg1_succ, hg]; exact rfl
        obtain ⟨D, hD⟩ : ∃ D, (det n fun a b => eI xss (a + 1) (sk k b)) = D := ⟨_, rfl⟩
        have HSU : Hid (sI (k + 1) (dtT n (eI xss)) = S + g * x * D) := by
          show sI k (dtT n (eI xss)) + sg1 k * eI xss 0 k * (det n fun a b => eI xss (a + 1) (sk k b)) = _
          rw [hS, hg, hxe, hD]
        have hSb := HT.out k hk
        have hSb2 := HT.out (k + 1) hlt
        have hDb := minor_le (n := n) (j := k) (eI xss) (by have := HC.out; omega)
        rw [hD] at hDb
        have hr1 := HR1.out
        have hpb : x.natAbs * D.natAbs ≤ 1125899906842624 := by
          have := HM0.out k hlt
          rw [hxe] at this
          exact Nat.le_trans (Nat.mul_le_mul_left _ hDb) this
        have hxb := bnd_ent (n := n + 1) (c := n + 1) (m := eI xss) (i := 0) (j := k) (by omega) (by have := HC.out; omega)
        rw [hxe] at hxb
        have hbd := HBD.out
        rw [hS] at hSb ⊢
        rw [hg] at hg1 ⊢
        rw [HSU.out] at hSb2
        have y0 : IntKind.i64.wrap (0 - g) = -g := by rw [IntWalk.i64_in _ (by omega)]; omega
        have y0' : IntKind.i64.wrap (-g) = -g := IntWalk.i64_in _ (by omega)
        by_cases hx0 : x = 0
        · subst hx0
          have HS2 : Hid (sI (k + 1) (dtT n (eI xss)) = S) := by rw [HSU.out, Int.mul_zero, Int.zero_mul, Int.add_zero]; exact rfl
          clear hri hcj hx hxe hS hg hg1 hD hSb hSb2 hDb hr1 hpb hxb hbd HSU
          go_wp2_with fail
          go_roundw
          case rel => exact ⟨k + 1, by omega, by go_num, by rw [HS2.out], by rw [HGS.out], HB⟩
          case measure => simp [intOf]; omega
        · have hx0' : (x != 0) = true := by rw [bne_iff_ne]; exact hx0
          obtain ⟨gx, hgx⟩ : ∃ gx, g * x = gx := ⟨_, rfl⟩
          rw [hgx] at HSU hSb2
          have hgxb : gx.natAbs = x.natAbs := by rw [← hgx, Int.natAbs_mul]; rcases hg1 with e | e <;> rw [e] <;> simp
          obtain ⟨P, hP⟩ : ∃ P, gx * D = P := ⟨_, rfl⟩
          rw [hP] at HSU hSb2
          have hPb : P.natAbs ≤ 1125899906842624 := by rw [← hP, Int.natAbs_mul, hgxb]; exact hpb
          have y1 : IntKind.i64.wrap (g * x) = gx := by rw [hgx]; exact IntWalk.i64_in _ (by omega)
          have y2 : IntKind.i64.wrap (gx * D) = P := by rw [hP]; exact IntWalk.i64_in _ (by omega)
          have y3 : IntKind.i64.wrap (S + P) = S + P := IntWalk.i64_in _ (by omega)
          have HWO : Hid (∀ W : World, Below w.heap.size w W → Calls Try.prog 80 #[.slice (some ⟨b, off, none⟩) c cap, .int .i64 k] W fun e w' => ∃ A' c', e = .returned (.slice A' n c') ∧ AM w' A' n (mkL n n fun a b => eI xss (a + 1) (sk k b)) ∧ Below W.heap.size W w') := fun W hW => by
            have h := HX.out.call hW
            have hc' := HC.out
            subst hc'
            exact without_any h HRC.out (by omega) hlt
          have HDT : Hid (∀ (W : World) (A' : Option Addr) (c' : Nat), AM W A' n (mkL n n fun a b => eI xss (a + 1) (sk k b)) → Calls Try.prog 61 #[.slice A' n c'] W fun e w' => e = .returned (.int .i64 D) ∧ Below W.heap.size W w') := fun W A' c' h => by
            have hm := rest_minor (n := n) (j := k) (eI xss) (by have := HC.out; omega)
            have e1 : bndM n n (eI (mkL n n fun a b => eI xss (a + 1) (sk k b))) = bndM n n fun i k' => eI xss (i + 1) (sk k k') := by
              unfold bndM
              refine pN_congr fun i hi => ?_
              rw [sN_congr (g := fun j => (eI xss (i + 1) (sk k j)).natAbs) fun j hj => by rw [mkL_eI hi hj]]
            have := IH.out W A' c' _ (by have := HC.out; omega) h (fun i hi => mkL_rowL hi) (by rw [e1]; exact Nat.le_trans hm HR1.out)
            rw [show det n (eI (mkL n n fun a b => eI xss (a + 1) (sk k b))) = D by rw [← hD]; exact det_congr fun i j hi hj => mkL_eI hi hj] at this
            exact this
          have HBb : Hid (b < wr.heap.size ∧ bk < wr.heap.size) := by
            obtain ⟨b3, o3, e3, hb3, -⟩ := (HX.out.call HB.out).rd.at_ (k := 0) (by rw [HX.out.ln]; omega)
            injection e3 with e3
            injection e3 with e3 e4 e5
            obtain ⟨b4, o4, e6, hb4, -⟩ := hri.at_ (k := k) (by show k < rowL xss 0; rw [HRC.out 0 (by omega)]; exact hlt)
            injection e6 with e6
            injection e6 with e6 e7 e8
            exact ⟨by rw [e3]; exact hb3, by rw [e6]; exact hb4⟩
          clear hri hcj hx hxe hS hg hg1 hD hSb hSb2 hDb hr1 hpb hxb hbd hgx hP hPb hgxb IH
          go_wp2_with fail
          go_region_held3 (fun w' => Hid (Below wr.heap.size wr w') ∧ w'.cell? ⟨b, off, none⟩ = some (.slice (some ⟨bk, ok, none⟩) c ck) ∧ w'.cell? ⟨bk, ok + k, none⟩ = some (.int .i64 x)) (first | exact ⟨by exact below_drewN (Below.refl _ _) 1, c1, c2⟩ | exact ⟨hbq, d1, d2⟩)
            (first
              | (go_at_call 80; refine (HWO.out _ (by exact below_drewN HB.out 1)).mono ?_; rintro e v1 ⟨A', c', rfl, ha, hb1⟩; have hbq : Below wr.heap.size wr v1 := (by have h := hb1; exact ⟨h.os, h.tape, h.output, h.size, h.block⟩); have d1 := (hbq.cell (p := ⟨b, off, none⟩) HBb.out.1).trans c1; have d2 := (hbq.cell (p := ⟨bk, ok + k, none⟩) HBb.out.2).trans c2)
              | (go_at_call 61; refine (HDT.out _ _ _ ha).mono ?_; rintro e v2 ⟨rfl, hb2⟩; have hbq := below_cons hbq hb2; have d1 := (hbq.cell (p := ⟨b, off, none⟩) HBb.out.1).trans c1; have d2 := (hbq.cell (p := ⟨bk, ok + k, none⟩) HBb.out.2).trans c2))
          all_goals
            have HB2 := Lib.hid (below_cons HB.out hbq)
            have HS2 : Hid (sI (k + 1) (dtT n (eI xss)) = S + P) := HSU.out
            clear hb1 hb2 hbq ha d1 d2 HWO HDT HBb HSU c1 c2
            go_wp2_with fail
            go_roundw
            case rel => exact ⟨k + 1, by omega, by go_num, by rw [HS2.out], by rw [HGS.out], HB2⟩
            case measure => simp [intOf]; omega
      · obtain rfl : k = c := by omega
        go_wp2_with fail
        go_ret
        exact ⟨ret_int HDE.out.symm, HB.out⟩
end Go.Proofs.Yteanhbldhaiekaa

