/-
  The contracts of the reference's minor, Sums, changes and Inertia; sums of principal minors over the sets of bits.
  The contracts of the reference's Inertia and Symmetric; the sums over sets are the sums of principal minors.
-/
import Derived.Test.YteanhbldhaiekaaRPick
import Derived.Test.YteanhbldhaiekaaDesA
import Derived.Deep.RegionWith
import Derived.Deep.CutBlock
import Derived.Deep.DeepCutAuto
import Derived.IntWalk
import Derived.Test.YteanhbldhaiekaaAw39
import Derived.BigQuiet
namespace Go.Proofs.Yteanhbldhaiekaa
open Go.RowKit

set_option maxHeartbeats 4000000 in
theorem minor_any {w : World} {A : Option Addr} {n cap r : Nat} {xss : List (List Int)} (h : AM w A n xss) (hr : ∀ i, i < n → rowL xss i = n) (hn : n ≤ 64) :
    Calls Try.prog 60 #[.slice A n cap, .int .i64 r] w fun e w' => ∃ V, e = .returned V ∧ RR 33 w' w.heap.size (fun _ => False) V (piL xss r r n n) ∧ Below w.heap.size w w' := by
  have HX := Lib.hid h
  have HRC := Lib.hid hr
  clear h hr
  go_enter Try.func60, Try.ntmps60
  go_wp2_with fail
  go_loopw [5, 6] (fun v k' wr => ∃ i : Nat, i ≤ n ∧ k' = .int .i64 i ∧ Hid (RR 33 wr w.heap.size (fun _ => False) v (piL xss r r n i)) ∧ Hid (Below w.heap.size w wr)) (fun _ k _ => n - (intOf k).toNat)
  case atStart => exact ⟨0, Nat.zero_le _, rfl, RR.nil _ _ _, Below.refl _ _⟩
  case round =>
    obtain ⟨i, hi, rfl, HR, HB⟩ := hrel
    by_cases hlt : i < n
    · obtain ⟨a, ha⟩ : ∃ a, r / 2 ^ i = a := ⟨_, rfl⟩
      have x1 : (r : Int) / 2 ^ i = (a : Int) := by rw [← ha]; simp
      by_cases hb : a % 2 = 1
      · have x2 : (a : Int).tmod 2 = 1 := by have := Int.ofNat_tmod a 2; rw [hb] at this; exact this.symm
        have x2' : (a : Int) % 2 = 1 := by omega
        have HSU := Lib.hid (piL_yes (xss := xss) (s := r) (c := n) (show r / 2 ^ i % 2 = 1 by rw [ha]; exact hb))
        clear ha hb
        go_wp2_with fail
        obtain ⟨w2, rfl⟩ : ∃ x : World, x = wr := ⟨_, rfl⟩
        have hs2 := HB.out.size
        go_loopw [7, 8] (fun v q' wr => ∃ q : Nat, q ≤ n ∧ q' = .int .i64 q ∧ Hid (OI wr w2.heap.size v (piR xss i r q)) ∧ Hid (Below w2.heap.size w2 wr)) (fun _ q _ => n - (intOf q).toNat)
        case atStart => exact ⟨0, Nat.zero_le _, rfl, OR.nil _ _, Below.refl _ _⟩
        case round =>
          obtain ⟨q, hq, rfl, HO, HC2⟩ := hrel
          have hx := HX.out.call (HB.out.trans (HC2.out.mono hs2))
          obtain ⟨b, off, Ak, ck, rfl, c1, hri⟩ := hx.head hlt
          rw [HRC.out i hlt] at c1
          have HRI := Lib.hid hri
          clear hx hri
          by_cases hltq : q < n
          · obtain ⟨d, hd⟩ : ∃ d, r / 2 ^ q = d := ⟨_, rfl⟩
            have z1 : (r : Int) / 2 ^ q = (d : Int) := by rw [← hd]; simp
            by_cases hb : d % 2 = 1
            · have z2 : (d : Int).tmod 2 = 1 := by have := Int.ofNat_tmod d 2; rw [hb] at this; exact this.symm
              have z2' : (d : Int) % 2 = 1 := by omega
              have HRU := Lib.hid (piR_yes (xss := xss) (i := i) (show r / 2 ^ q % 2 = 1 by rw [hd]; exact hb))
              obtain ⟨bk, ok, rfl, -, hcj⟩ := HRI.out.at_ (k := q) (by show q < rowL xss i; rw [HRC.out i hlt]; exact hltq)
              have c2 := hcj q (by show q < rowL xss i; rw [HRC.out i hlt]; exact hltq)
              obtain ⟨x, hx'⟩ : ∃ x, gi (xss.getD i []) q = x := ⟨_, rfl⟩
              rw [hx'] at c2
              have HXE : Hid (eI xss i q = x) := hx'
              have HL : Hid ((piR xss i r q).length < 1099511627776) := Lib.hid (by rw [piR_len]; have := blL_le r q; omega)
              have hsz := HC2.out.size
              clear hcj hx' hd hb
              go_wp2_with (at_builtin; refine app1 HO.out HL.out hsz rfl rfl Try.underlying33 rfl rfl ?_; intro v' w' ho hg hob)
              have hbn' := HO.out.grown_below HC2.out hsz _ hg
              have HO' : Hid (OI w' w2.heap.size v' (piR xss i r (q + 1))) := by
                rw [HRU.out, HXE.out]; exact ho
              go_roundw
              case rel => exact ⟨q + 1, by omega, by go_num, HO', hbn'⟩
              case measure => simp [intOf]; omega
            · have hb0 : d % 2 = 0 := by omega
              have z2 : (d : Int).tmod 2 = 0 := by have := Int.ofNat_tmod d 2; rw [hb0] at this; exact this.symm
              have z2' : (d : Int) % 2 = 0 := by omega
              have HO2 : Hid (OI wr w2.heap.size u7 (piR xss i r (q + 1))) := by
                rw [piR_no (by rw [hd]; exact hb)]; exact HO.out
              clear hd hb hb0 HO
              go_wp2_with fail
              go_roundw
              case rel => exact ⟨q + 1, by omega, by go_num, HO2, HC2⟩
              case measure => simp [intOf]; omega
          · obtain rfl : q = n := by omega
            obtain ⟨Au, cu, rfl, -, -, -⟩ := HO.out.shape
            obtain ⟨vs, hvs⟩ := (HR.out.below HC2.out (Nat.le_refl _))
            have HV := Lib.hid hvs
            have hvl : vs.length < 1099511627776 := by have := hvs.2.2.1; rw [piL_len] at this; have := blL_le r i; omega
            have HVL := Lib.hid hvl
            have HBW := Lib.hid (HB.out.trans (HC2.out.mono hs2))
            have hszw := HBW.out.size
            clear hvs hvl
            go_wp2_with (at_builtin; refine app_row (f := id) (y := Value.slice Au (piR xss i r q).length cu) row_info rfl (by decide) rfl HV.out.1 HVL.out hszw rfl rfl Try.underlying22 rfl rfl ?_; intro v' w' ho hg hob)
            have hR := RRv.push (by decide) HV.out (HO.out.mono hs2) (fun _ _ h => h) (fun b hF => hF.elim) ho hg hob
            have HBN := Lib.hid (HV.out.1.grown_below HBW.out hszw _ hg)
            have HR2 : Hid (RR 33 w' w.heap.size (fun _ => False) v' (piL xss r r q (i + 1))) := by
              rw [HSU.out]; exact ⟨_, hR⟩
            clear ho hg hob hR
            go_roundw
            case rel => exact ⟨i + 1, by omega, by go_num, HR2, HBN⟩
            case measure => simp [intOf]; omega
      · have hb0 : a % 2 = 0 := by omega
        have x2 : (a : Int).tmod 2 = 0 := by have := Int.ofNat_tmod a 2; rw [hb0] at this; exact this.symm
        have x2' : (a : Int) % 2 = 0 := by omega
        have HR2 : Hid (RR 33 wr w.heap.size (fun _ => False) u5 (piL xss r r n (i + 1))) := by
          rw [piL_no (by rw [ha]; exact hb)]; exact HR.out
        clear ha hb hb0 HR
        go_wp2_with fail
        go_roundw
        case rel => exact ⟨i + 1, by omega, by go_num, HR2, HB⟩
        case measure => simp [intOf]; omega
    · obtain rfl : i = n := by omega
      go_wp2_with fail
      go_ret
      exact ⟨_, rfl, HR.out, HB.out⟩
/-! ### sums over the sets -/
theorem blL_sorted (r q : Nat) : (blL r q).Pairwise (· < ·) := (List.pairwise_lt_range (n := q)).filter _
theorem psN_inj {r q a b : Nat} (ha : a < (blL r q).length) (hb : b < (blL r q).length) (e : psN r q a = psN r q b) : a = b := by
  have key : ∀ {a b : Nat}, a < b → b < (blL r q).length → psN r q a < psN r q b := fun {a b} hab hb => by
    have ha := Nat.lt_trans hab hb
    have := List.pairwise_iff_getElem.1 (blL_sorted r q) a b ha hb hab
    unfold psN
    rw [List.getD_eq_getElem?_getD, List.getD_eq_getElem?_getD, List.getElem?_eq_getElem ha, List.getElem?_eq_getElem hb]
    exact this
  rcases Nat.lt_trichotomy a b with h | h | h
  · have := key h hb; omega
  · exact h
  · have := key h ha; omega
/-- the minor of a set, if it has k elements; the sum over the first s sets -/
def suT (xss : List (List Int)) (n k t : Nat) : Int := if (blL t n).length = k then det k fun a b => eI xss (psN t n a) (psN t n b) else 0
def suS (xss : List (List Int)) (n s k : Nat) : Int := sI s (suT xss n k)
def suL (xss : List (List Int)) (n s : Nat) : List Int := (List.range (n + 1)).map (suS xss n s)
theorem suL_len (xss : List (List Int)) (n s : Nat) : (suL xss n s).length = n + 1 := by simp [suL]
theorem suL_gi {xss : List (List Int)} {n s k : Nat} (h : k < n + 1) : gi (suL xss n s) k = suS xss n s k := by simp [gi, suL, h]
theorem suL_zero (xss : List (List Int)) (n : Nat) : suL xss n 0 = List.replicate (n + 1) 0 := by
  refine ext_gi (by rw [suL_len]; simp) fun k hk => ?_
  rw [suL_len] at hk
  rw [suL_gi hk, gi_replicate hk]
  rfl
theorem suL_succ {xss : List (List Int)} {n s k : Nat} (hk : (blL s n).length = k) : suL xss n (s + 1) = (suL xss n s).set k (gi (suL xss n s) k + det k fun a b => eI xss (psN s n a) (psN s n b)) := by
  have hkn : k < n + 1 := by have := blL_le s n; omega
  refine ext_gi (by rw [List.length_set, suL_len, suL_len]) fun j hj => ?_
  rw [suL_len] at hj
  rw [gi_set (by rw [suL_len]; exact hkn), suL_gi hj, suL_gi hkn, suL_gi hj]
  show suS xss n s j + suT xss n j s = _
  unfold suT
  by_cases e : j = k
  · subst e; rw [if_pos hk, if_pos rfl]
  · rw [if_neg (by omega), if_neg e, Int.add_zero]
section
variable {xss : List (List Int)} {n : Nat} (hb : bndM n n (eI xss) ≤ 1125899906842624)
include hb
theorem min_bd {t k : Nat} (hk : (blL t n).length = k) : (det k fun a b => eI xss (psN t n a) (psN t n b)).natAbs ≤ 1125899906842624 :=
  Nat.le_trans (mn_bd (n := n) (A := eI xss) (R := psN t n) (C := psN t n) (fun x hx => psN_lt (by omega)) fun x hx => psN_lt (by omega)) hb
theorem min_bd2 {t k : Nat} (hk : (blL t n).length = k) : bndM k k (eI (mkL k k fun a b => eI xss (psN t n a) (psN t n b))) ≤ 1125899906842624 := by
  have e1 : bndM k k (eI (mkL k k fun a b => eI xss (psN t n a) (psN t n b))) = bndM k k fun a b => eI xss (psN t n a) (psN t n b) := by
    unfold bndM
    refine pN_congr fun i hi => ?_
    rw [sN_congr (g := fun j => (eI xss (psN t n i) (psN t n j)).natAbs) fun j hj => by rw [mkL_eI hi hj]]
  rw [e1]
  refine Nat.le_trans ?_ hb
  refine Nat.le_trans (pN_le (g := fun a => max (sN n fun j => (eI xss (psN t n a) j).natAbs) 1) fun a _ => ?_) (pN_inj (fun i => max (sN n fun j => (eI xss i j).natAbs) 1) (fun _ _ => Nat.le_max_right ..) (fun a b ha hb e => psN_inj (by omega) (by omega) e) (fun a ha => psN_lt (by omega)))
  show max (sN k fun b => (eI xss (psN t n a) (psN t n b)).natAbs) 1 ≤ max (sN n fun j => (eI xss (psN t n a) j).natAbs) 1
  have := sN_inj (fun j => (eI xss (psN t n a) j).natAbs) (js := psN t n) (fun a b ha hb e => psN_inj (r := t) (q := n) (by omega) (by omega) e) (fun b hb => psN_lt (r := t) (q := n) (a := b) (by omega)) (k := k)
  omega
theorem suS_bd (k : Nat) : ∀ s, (suS xss n s k).natAbs ≤ s * 1125899906842624
  | 0 => Nat.zero_le _
  | s + 1 => by
    have h1 := suS_bd k s
    have h2 : (suT xss n k s).natAbs ≤ 1125899906842624 := by
      unfold suT
      by_cases e : (blL s n).length = k
      · rw [if_pos e]; exact min_bd hb e
      · rw [if_neg e]; exact Nat.zero_le _
    have h3 : suS xss n (s + 1) k = suS xss n s k + suT xss n k s := rfl
    rw [h3]
    omega
end
theorem minor_am {w : World} {A : Option Addr} {n cap r k : Nat} {xss : List (List Int)} (h : AM w A n xss) (hr : ∀ i, i < n → rowL xss i = n) (hn : n ≤ 64) (hk : (blL r n).length = k) :
    Calls Try.prog 60 #[.slice A n cap, .int .i64 r] w fun e w' => ∃ A' c', e = .returned (.slice A' k c') ∧ AM w' A' k (mkL k k fun a b => eI xss (psN r n a) (psN r n b)) ∧ Below w.heap.size w w' := by
  refine (minor_any h hr hn).mono ?_
  rintro e w' ⟨V, rfl, hV, hb⟩
  rw [piL_mk hk hk] at hV
  obtain ⟨A', c', rfl, ha⟩ := hV.am (fun x y hx hy => by
    rw [mkL_len] at hx
    rw [mkL_rowL hx] at hy
    rw [mkL_eI hx hy]
    exact h.rg _ _ (psN_lt (by omega)) (by rw [hr _ (psN_lt (by omega))]; exact psN_lt (by omega)))
  rw [mkL_len] at ha ⊢
  exact ⟨A', c', rfl, ha, hb⟩
theorem row_at {w : World} {B g c : Nat} {xs : List Int} (h : OI w B (.slice (some ⟨g, 0, none⟩) xs.length c) xs) {k : Nat} (hk : k < xs.length) : w.cell? ⟨g, k, none⟩ = some (.int .i64 (gi xs k)) ∧ w.frozen? ⟨g, k, none⟩ = false := by
  obtain ⟨g', c', e, -, -, -, -, h1, h2⟩ := h.block (by omega)
  injection e with e _ _
  injection e with e
  injection e with e
  subst e
  refine ⟨?_, h2 k⟩
  rw [h1 k hk, gi_lt hk]
theorem OI.put {w : World} {B g c n : Nat} {xs : List Int} (h : OI w B (.slice (some ⟨g, 0, none⟩) n c) xs) (hn : xs.length = n) (k : Nat) (y : Int) : OI (w.setCell ⟨g, k, none⟩ (.int .i64 y)) B (.slice (some ⟨g, 0, none⟩) n c) (xs.set k y) := by
  subst hn
  have := OR.stored (k := k) h y
  rwa [List.length_set] at this
theorem own_rep {w : World} {B g m : Nat} (hB : B ≤ g) (hm : m ≤ maxLen) (h : w.heap[g]? = some (.cells (Array.replicate m (Value.int .i64 0)) 3)) : OI w B (.slice (some ⟨g, 0, none⟩) m m) (List.replicate m 0) := by
  refine ⟨by simp, .inr ⟨g, m, Array.replicate m (Value.int .i64 0), by simp, hB, h, by simp, hm, by simp, by simp⟩⟩
theorem pow64 {n : Nat} (h : n ≤ 6) : 2 ^ n ≤ 64 := Nat.le_trans (Nat.pow_le_pow_right (by decide) h) (by decide)
set_option maxHeartbeats 8000000 in
theorem rsums_any {w : World} {A : Option Addr} {n cap : Nat} {xss : List (List Int)} (h : AM w A n xss) (hr : ∀ i, i < n → rowL xss i = n) (hn : n ≤ 6) (hb : bndM n n (eI xss) ≤ 1125899906842624) :
    Calls Try.prog 38 #[.slice A n cap] w fun e w' => ∃ V, e = .returned V ∧ OI w' w.heap.size V (suL xss n (2 ^ n)) ∧ Below w.heap.size w w' := by
  have HX := Lib.hid h
  have HRC := Lib.hid hr
  have HBD := Lib.hid hb
  obtain ⟨N, hN⟩ : ∃ N, 2 ^ n = N := ⟨_, rfl⟩
  have hN64 : N ≤ 64 := by rw [← hN]; exact pow64 hn
  have z1 : (2 : Int) ^ n = (N : Int) := by rw [← hN]; simp
  have z3 : IntKind.i64.wrap (N : Int) = (N : Int) := IntWalk.i64_in _ (by omega)
  obtain ⟨m, hm⟩ : ∃ m, n + 1 = m := ⟨_, rfl⟩
  have HM := Lib.hid hm
  have hm7 : m ≤ 7 := by omega
  have z4 : (n : Int) + 1 = (m : Int) := by omega
  have mk := make_ints 33 Try.underlying33 m (by omega)
  rw [hN]
  clear h hr hb hN
  go_enter Try.func38, Try.ntmps38
  go_upto_region 2 with (fail)
  clear mk z4
  have HO0 : Hid (OI (w.alloc (.cells (Array.replicate m (Value.int .i64 0)) 3)) w.heap.size (.slice (some ⟨w.heap.size, 0, none⟩) m m) (suL xss n 0)) := Lib.hid (by
    rw [suL_zero, HM.out]
    exact own_rep (Nat.le_refl _) (by unfold maxLen; omega) (heap_alloc_new _ _))
  have HB0 : Hid (Below w.heap.size w (w.alloc (.cells (Array.replicate m (Value.int .i64 0)) 3))) := Lib.hid ((Below.refl _ _).alloc (Nat.le_refl _) _)
  generalize hW : w.alloc (.cells (Array.replicate m (Value.int .i64 0)) 3) = W0 at *
  clear hW
  obtain ⟨g, hg⟩ : ∃ g, w.heap.size = g := ⟨_, rfl⟩
  have HG := Lib.hid hg
  rw [hg] at HO0 HB0 ⊢
  clear hg hm
  go_wp2_with fail
  go_loopw [4] (fun s' wr => ∃ s : Nat, s ≤ N ∧ s' = .int .i64 s ∧ Hid (OI wr g (.slice (some ⟨g, 0, none⟩) m m) (suL xss n s)) ∧ Hid (Below g w wr)) (fun s _ => N - (intOf s).toNat)
  case atStart => exact ⟨0, Nat.zero_le _, rfl, HO0, HB0⟩
  case round =>
    clear HO0 HB0
    obtain ⟨s, hs, rfl, HO, HB⟩ := hrel
    by_cases hlt : s < N
    · obtain ⟨k, hk⟩ : ∃ k, (blL s n).length = k := ⟨_, rfl⟩
      have hkm : k < m := by have := blL_le s n; have := HM.out; omega
      have HSU := Lib.hid (suL_succ (xss := xss) hk)
      have HB2 := Lib.hid (min_bd2 HBD.out hk)
      have hD := min_bd HBD.out hk
      have HMI := Lib.hid (minor_am (cap := cap) (HX.out.call (HG.out ▸ HB.out)) HRC.out (by omega) hk)
      obtain ⟨D, hD2⟩ : ∃ D, (det k fun a b => eI xss (psN s n a) (psN s n b)) = D := ⟨_, rfl⟩
      have HDE : Hid (det k (eI (mkL k k fun a b => eI xss (psN s n a) (psN s n b))) = D) := Lib.hid (by rw [← hD2]; exact det_congr fun i j hi hj => mkL_eI hi hj)
      rw [hD2] at HSU hD
      have hv := suS_bd HBD.out k s
      have e0 : suS xss n s k = gi (suL xss n s) k := (suL_gi (by have := HM.out; omega)).symm
      rw [e0] at hv
      obtain ⟨v, hvv⟩ : ∃ v, gi (suL xss n s) k = v := ⟨_, rfl⟩
      rw [hvv] at hv HSU
      have HV := Lib.hid hvv
      have hvb : v.natAbs ≤ 64 * 1125899906842624 := Nat.le_trans hv (Nat.mul_le_mul_right _ (by omega))
      clear hk hD2 e0 hv hvv
      go_wp2_with fail
      refine HMI.out.mono ?_
      rintro e w2 ⟨A', c', rfl, ha, hb2⟩
      have HA := Lib.hid ha
      have hgs : g ≤ wr.heap.size := HG.out ▸ HB.out.size
      have HB3 := Lib.hid (HB.out.trans (hb2.mono hgs))
      have HO2 := Lib.hid (HO.out.below hb2 (Nat.le_refl _))
      have hlen : Hid ((suL xss n s).length = m) := Lib.hid ((suL_len _ _ _).trans HM.out)
      obtain ⟨d1, d2⟩ := row_at (c := m) (by rw [hlen.out]; exact HO2.out) (k := k) (by rw [hlen.out]; exact hkm)
      rw [HV.out] at d1
      have hgl := (HO2.out.lt g rfl).2
      have HGL := Lib.hid hgl
      have y1 : IntKind.i64.wrap (v + D) = v + D := IntWalk.i64_in _ (by omega)
      clear ha hb2 HMI HB hgs hgl
      go_wp2_with fail
      go_region_with (go_at_call 61; refine (rdet_any k _ _ _ _ (by omega) (HA.out.call (by exact below_drewN (Below.refl _ _) 1)) (fun i hi => mkL_rowL hi) HB2.out).mono ?_; rintro e w3 ⟨rfl, hb3⟩; rw [HDE.out]; have hbq : Below w2.heap.size w2 w3 := (by have h := hb3; exact ⟨h.os, h.tape, h.output, h.size, h.block⟩); have q1 := (hbq.cell (p := ⟨g, k, none⟩) HGL.out).trans d1; have q2 := (hbq.frozen (p := ⟨g, k, none⟩) HGL.out).trans d2)
      all_goals
        have HO3 := Lib.hid (OI.put (HO2.out.below hbq (Nat.le_refl _)) hlen.out k (v + D))
        rw [← HSU.out] at HO3
        have HB4 := Lib.hid ((HB3.out.trans (hbq.mono (Nat.le_of_lt HGL.out))).setCell (p := ⟨g, k, none⟩) (Nat.le_refl _) (.int .i64 (v + D)))
        clear hb3 hbq q1 q2 d1 d2 HA HB2 HO2 HB3 HSU HDE
        go_wp2_with fail
        go_roundw
        case rel => exact ⟨s + 1, by omega, by go_num, HO3, HB4⟩
        case measure => simp [intOf]; omega
    · obtain rfl : s = N := by omega
      go_wp2_with fail
      go_ret
      exact ⟨.slice (some ⟨g, 0, none⟩) m m, rfl, by rw [HG.out]; exact HO.out, by rw [HG.out]; exact HB.out⟩
theorem chN_lt {f g : Nat → Int} : ∀ {K : Nat}, (∀ k, k < K → f k = g k) → chN f K = chN g K ∧ chL f K = chL g K
  | 0, _ => ⟨rfl, rfl⟩
  | K + 1, h => by
    obtain ⟨h1, h2⟩ := chN_lt (K := K) fun k hk => h k (by omega)
    have h3 := h K (by omega)
    show (if _ then _ else _) = (if _ then _ else _) ∧ (if _ then _ else _) = (if _ then _ else _)
    rw [h1, h2, h3]
    exact ⟨rfl, rfl⟩
theorem chN_le (f : Nat → Int) : ∀ K, chN f K ≤ K
  | 0 => Nat.le_refl _
  | K + 1 => by
    have := chN_le f K
    have e2 : chN f (K + 1) = if f K ≠ 0 ∧ chL f K ≠ 0 ∧ (decide (f K < 0) != decide (chL f K < 0)) = true then chN f K + 1 else chN f K := rfl
    rw [e2]
    split <;> omega
set_option maxHeartbeats 4000000 in
theorem rchanges_any {w : World} {A : Option Addr} {n cap : Nat} {xs : List Int} {S : Nat → Prop} (h : RI w S A xs) (hn : xs.length = n) (hl : n ≤ 64) :
    Calls Try.prog 39 #[.slice A n cap] w fun e w' => e = .returned (.int .i64 (chN (gi xs) n : Nat)) ∧ w = w' := by
  have HX := Lib.hid h
  have HN := Lib.hid hn
  clear h hn
  go_enter Try.func39, Try.ntmps39
  go_wp2_with fail
  go_loopw [3, 4, 5] (fun c' l' i' wr => ∃ i c : Nat, ∃ l : Int, i ≤ n ∧ i' = .int .i64 i ∧ c' = .int .i64 c ∧ l' = .int .i64 l ∧ c ≤ 64 ∧ Hid (chN (gi xs) i = c ∧ chL (gi xs) i = l) ∧ w = wr) (fun _ _ i _ => n - (intOf i).toNat)
  case atStart => exact ⟨0, 0, 0, Nat.zero_le _, rfl, rfl, rfl, Nat.zero_le _, Lib.hid ⟨rfl, rfl⟩, rfl⟩
  case round =>
    obtain ⟨i, c, l, hi, rfl, rfl, rfl, hc, HC, rfl⟩ := hrel
    by_cases hlt : i < n
    · obtain ⟨b, off, rfl, -, hcell⟩ := HX.out.at_ (k := i) (by rw [HN.out]; exact hlt)
      have k0 := hcell i (by rw [HN.out]; exact hlt)
      clear hcell
      obtain ⟨x, hx⟩ : ∃ x, gi xs i = x := ⟨_, rfl⟩
      rw [hx] at k0
      have e1 : chN (gi xs) (i + 1) = if x ≠ 0 ∧ l ≠ 0 ∧ (decide (x < 0) != decide (l < 0)) = true then c + 1 else c := by
        rw [← hx, ← HC.out.1, ← HC.out.2]; rfl
      have e2 : chL (gi xs) (i + 1) = if x = 0 then l else x := by rw [← hx, ← HC.out.2]; rfl
      have hc1 : chN (gi xs) (i + 1) ≤ i + 1 := chN_le _ _
      have HE1 := Lib.hid e1
      have HE2 := Lib.hid e2
      by_cases hx0 : x = 0
      · have z1 : (x == 0) = true := by rw [beq_iff_eq]; exact hx0
        have HE : Hid (chN (gi xs) (i + 1) = c ∧ chL (gi xs) (i + 1) = l) := Lib.hid ⟨by rw [e1, if_neg fun h => h.1 hx0], by rw [e2, if_pos hx0]⟩
        clear hx e1 e2 hx0 HE1 HE2 hc1 HC
        go_wp2_with fail
        go_roundw
        case rel => exact ⟨i + 1, c, l, by omega, by go_num, rfl, rfl, hc, HE, by trivial⟩
        case measure => simp [intOf]; omega
      · have z1 : (x == 0) = false := by rw [beq_eq_false_iff_ne]; exact hx0
        by_cases hl0 : l = 0
        · have z2 : (l != 0) = false := by rw [bne_eq_false_iff_eq]; exact hl0
          have HE : Hid (chN (gi xs) (i + 1) = c ∧ chL (gi xs) (i + 1) = x) := Lib.hid ⟨by rw [e1, if_neg fun h => h.2.1 hl0], by rw [e2, if_neg hx0]⟩
          clear hx e1 e2 hx0 HE1 HE2 hc1 HC hl0
          go_wp2_with fail
          go_roundw
          case rel => exact ⟨i + 1, c, x, by omega, by go_num, rfl, rfl, hc, HE, by trivial⟩
          case measure => simp [intOf]; omega
        · have z2 : (l != 0) = true := by rw [bne_iff_ne]; exact hl0
          by_cases hs : (decide (x < 0) != decide (l < 0)) = true
          · have HE : Hid (chN (gi xs) (i + 1) = c + 1 ∧ chL (gi xs) (i + 1) = x) := Lib.hid ⟨by rw [e1, if_pos ⟨hx0, hl0, hs⟩], by rw [e2, if_neg hx0]⟩
            have hc2 : c + 1 ≤ 64 := by rw [← HE.out.1]; omega
            clear hx e1 e2 hx0 HE1 HE2 hc1 HC hl0
            rw [bne_iff_ne, ne_eq, decide_eq_decide] at hs
            by_cases hxn : x < 0
            case' pos =>
              have hln : ¬ l < 0 := fun h => hs ⟨fun _ => h, fun _ => hxn⟩
              have z3 : decide (x < 0) = true := decide_eq_true hxn
              have z4 : decide (l < 0) = false := decide_eq_false hln
            case' neg =>
              have hln : l < 0 := Classical.byContradiction fun h => hs ⟨fun h' => absurd h' hxn, fun h' => absurd h' h⟩
              have z3 : decide (x < 0) = false := decide_eq_false hxn
              have z4 : decide (l < 0) = true := decide_eq_true hln
            all_goals
              clear hs
              go_wp2_with fail
              go_roundw
              case rel => exact ⟨i + 1, c + 1, x, by omega, by go_num, by go_num, rfl, hc2, HE, by trivial⟩
              case measure => simp [intOf]; omega
          · have HE : Hid (chN (gi xs) (i + 1) = c ∧ chL (gi xs) (i + 1) = x) := Lib.hid ⟨by rw [e1, if_neg fun h => hs h.2.2], by rw [e2, if_neg hx0]⟩
            clear hx e1 e2 hx0 HE1 HE2 hc1 HC hl0
            rw [bne_iff_ne, ne_eq, decide_eq_decide, Classical.not_not] at hs
            by_cases hxn : x < 0
            case' pos =>
              have hln : l < 0 := hs.1 hxn
              have z3 : decide (x < 0) = true := decide_eq_true hxn
              have z4 : decide (l < 0) = true := decide_eq_true hln
            case' neg =>
              have hln : ¬ l < 0 := fun h => hxn (hs.2 h)
              have z3 : decide (x < 0) = false := decide_eq_false hxn
              have z4 : decide (l < 0) = false := decide_eq_false hln
            all_goals
              clear hs
              go_wp2_with fail
              go_roundw
              case rel => exact ⟨i + 1, c, x, by omega, by go_num, rfl, rfl, hc, HE, by trivial⟩
              case measure => simp [intOf]; omega
    · obtain rfl : i = n := by omega
      go_wp2_with fail
      go_ret
      exact ⟨ret_int (by rw [HC.out.1]), rfl⟩
end Go.Proofs.Yteanhbldhaiekaa
namespace Go.Proofs.Yteanhbldhaiekaa
open Go.RowKit

/-- two fresh rows of ints, apart -/
def O2 (w : World) (N : Nat) (v1 v2 : Value) (xs ys : List Int) : Prop := OI w N v1 xs ∧ OI w N v2 ys ∧ ∀ g, v1.ownBlock = some g → v2.ownBlock ≠ some g
section
variable {w w' : World} {N : Nat} {v1 v2 v1' v2' u : Value} {X1 X2 : List (List Int)} {xs ys x : List Int} {y : Int}
theorem O2.symm (h : O2 w N v1 v2 xs ys) : O2 w N v2 v1 ys xs := ⟨h.2.1, h.1, fun g h1 h2 => h.2.2 g h2 h1⟩
theorem O2.nil (w : World) (N : Nat) : O2 w N (.slice none 0 0) (.slice none 0 0) [] [] := ⟨OR.nil _ _, OR.nil _ _, fun g h => by simp [Value.ownBlock] at h⟩
/-- one element more in the first row -/
theorem O2.push (h : O2 w N v1 v2 xs ys) (ho : OI w' N v1' (xs ++ [y])) (hg : (w.alloc (.cells #[.int .i64 y] 3)).grownBy w' v1.ownBlock) (hob : v1'.ownBlock = v1.ownBlock ∨ v1'.ownBlock = some (w.heap.size + 1)) : O2 w' N v1' v2 (xs ++ [y]) ys := by
  obtain ⟨h1, h2, h3⟩ := h
  refine ⟨ho, h2.keep fun g hgy => ?_, fun g hg1 hg2 => ?_⟩
  · have hlt := (h2.lt g hgy).2
    rw [hg.block g (by simp; omega) (fun e => h3 g e.symm hgy), Below.heap_alloc w _ g hlt]
  · rcases hob with e | e
    · exact h3 g (e ▸ hg1) hg2
    · rw [e] at hg1
      injection hg1 with hg1
      have := (h2.lt g hg2).2
      omega
end
/-- a square matrix: rows as long as there are rows -/
theorem bnd_sq {x : List (List Int)} {n : Nat} (hl : x.length = n) (hs : SqS x) : bndM x.length (rowL x 0) (eI x) = bndM n n (eI x) := by
  subst hl
  rcases Nat.eq_zero_or_pos x.length with h | h
  · unfold bndM; rw [h]; rfl
  · rw [hs.1 0 h]
/-! ### sets and principal minors -/
/-- the numbers of a list, then those of R -/
def apL (L : List Nat) (R : Nat → Nat) (x : Nat) : Nat := if x < L.length then L.getD x 0 else R (x - L.length)
theorem apL_snoc (L : List Nat) (m : Nat) (R : Nat → Nat) (x : Nat) : apL (L ++ [m]) R x = apL L (cn m R) x := by
  unfold apL
  rw [List.length_append, List.length_singleton]
  by_cases h : x < L.length
  · rw [if_pos h, if_pos (by omega), List.getD_eq_getElem?_getD, List.getD_eq_getElem?_getD, List.getElem?_append_left h]
  · rw [if_neg h]
    by_cases e : x = L.length
    · subst e
      rw [if_pos (by omega), Nat.sub_self]
      simp [cn]
    · rw [if_neg (by omega)]
      obtain ⟨y, hy⟩ : ∃ y, x - L.length = y + 1 := ⟨x - L.length - 1, by omega⟩
      rw [hy, cn_succ]
      congr 1
      omega
theorem bit_lo {m t i : Nat} (hi : i < m) : (2 ^ m + t) / 2 ^ i % 2 = t / 2 ^ i % 2 := by
  have h := Nat.testBit_two_pow_add_gt hi t
  rw [Nat.testBit_eq_decide_div_mod_eq, Nat.testBit_eq_decide_div_mod_eq, decide_eq_decide] at h
  omega
theorem bit_hi {m t : Nat} (ht : t < 2 ^ m) : (2 ^ m + t) / 2 ^ m % 2 = 1 ∧ t / 2 ^ m % 2 = 0 := by
  rw [Nat.add_div_left t (Nat.two_pow_pos m), Nat.div_eq_of_lt ht]
  exact ⟨rfl, rfl⟩
theorem blL_low {m t : Nat} (ht : t < 2 ^ m) : blL t (m + 1) = blL t m := by rw [blL_succ, if_neg (by rw [(bit_hi ht).2]; decide)]
theorem blL_high {m t : Nat} (ht : t < 2 ^ m) : blL (2 ^ m + t) (m + 1) = blL t m ++ [m] := by
  rw [blL_succ, if_pos (bit_hi ht).1]
  congr 1
  unfold blL
  refine List.filter_congr fun i hi => ?_
  rw [bit_lo (List.mem_range.1 hi)]
theorem su_wS (A : Mx) (k : Nat) : ∀ (m r : Nat) (R : Nat → Nat), (sI (2 ^ m) fun t => if (blL t m).length + r = k then mn A k (apL (blL t m) R) (apL (blL t m) R) else 0) = wS one1 A m r R k
  | 0, r, R => by
    show 0 + (if 0 + r = k then mn A k (apL [] R) (apL [] R) else 0) = if k = r then mn A r R R else 0
    by_cases e : k = r
    · subst e
      rw [if_pos (by omega), if_pos rfl, Int.zero_add]
      exact mn_congr (fun x _ => by unfold apL; rw [if_neg (by simp)]; rfl) fun x _ => by unfold apL; rw [if_neg (by simp)]; rfl
    · rw [if_neg (by omega), if_neg e]; rfl
  | m + 1, r, R => by
    rw [show 2 ^ (m + 1) = 2 ^ m + 2 ^ m by rw [Nat.pow_succ]; omega, sI_len]
    show _ = one1 m * wS one1 A m r R k + wS one1 A m (r + 1) (cn m R) k
    rw [show one1 m = 1 from rfl, Int.one_mul, ← su_wS A k m r R, ← su_wS A k m (r + 1) (cn m R)]
    congr 1
    · exact sI_congr fun t ht => by rw [blL_low ht]
    · refine sI_congr fun t ht => ?_
      rw [blL_high ht, List.length_append, List.length_singleton, show (blL t m).length + 1 + r = (blL t m).length + (r + 1) by omega]
      split
      · exact mn_congr (fun x _ => apL_snoc _ _ _ _) fun x _ => apL_snoc _ _ _ _
      · rfl
theorem su_eD (xss : List (List Int)) (n k : Nat) : suS xss n (2 ^ n) k = eD n one1 (eI xss) k := by
  rw [eD_wS n one1 (eI xss) fun x => x, ← su_wS]
  unfold suS suT
  refine sI_congr fun t _ => ?_
  rw [Nat.add_zero]
  by_cases e : (blL t n).length = k
  · rw [if_pos e, if_pos e]
    refine det_congr fun a b ha hb => ?_
    have h : ∀ x, x < k → apL (blL t n) (fun x => x) x = psN t n x := fun x hx => by
      unfold apL psN
      rw [if_pos (by omega)]
    rw [h a ha, h b hb]
  · rw [if_neg e, if_neg e]
/-- the changes of sign of the sums are the numbers -/
theorem su_des {xss : List (List Int)} {n p q : Nat} (hA : Sym n (eI xss)) (h : Inr n (eI xss) p q) (hr : RkP n n (eI xss) (p + q)) :
    chN (suS xss n (2 ^ n)) (n + 1) = q ∧ chN (fun k => sg1 k * suS xss n (2 ^ n) k) (n + 1) = p := by
  have e : suS xss n (2 ^ n) = eD n one1 (eI xss) := funext fun k => su_eD xss n k
  rw [e]
  refine descartes hA h fun k hk => ?_
  have hz : ∀ (m r : Nat) (R : Nat → Nat), m ≤ n → (∀ x, x < r → R x < n) → wS one1 (eI xss) m r R k = 0 := fun m => by
    induction m with
    | zero =>
      intro r R _ hR
      unfold wS
      by_cases e : k = r
      · subst e
        rw [if_pos rfl]
        have := hr.up.ups (k - (p + q + 1))
        rw [show p + q + 1 + (k - (p + q + 1)) = k by omega] at this
        exact Int.zero_dvd.1 (this R R hR hR)
      · rw [if_neg e]
    | succ m ih =>
      intro r R hm hR
      unfold wS
      rw [ih r R (by omega) hR, ih (r + 1) (cn m R) (by omega) (cn_lt (by omega) hR), Int.mul_zero]
      rfl
  rw [eD_wS n one1 (eI xss) fun x => x]
  exact hz n 0 _ (Nat.le_refl _) fun x hx => absurd hx (Nat.not_lt_zero x)

/-! ### the contracts -/
def plL (S : List Int) (k : Nat) : List Int := (List.range k).map fun j => sg1 j * gi S j
theorem plL_succ (S : List Int) (k : Nat) : plL S (k + 1) = plL S k ++ [sg1 k * gi S k] := by simp [plL, List.range_succ]
theorem plL_len (S : List Int) (k : Nat) : (plL S k).length = k := by simp [plL]
theorem plL_gi {S : List Int} {k j : Nat} (h : j < k) : gi (plL S k) j = sg1 j * gi S j := by simp [gi, plL, h]
theorem take_gi {S : List Int} {k : Nat} (h : k < S.length) : S.take (k + 1) = S.take k ++ [gi S k] := by
  rw [List.take_succ_eq_append_getElem h, gi_lt h]
theorem RI.cell {w : World} {P : Nat → Prop} {b off k : Nat} {xs : List Int} (h : RI w P (some ⟨b, off, none⟩) xs) (hk : k < xs.length) : w.cell? ⟨b, off + k, none⟩ = some (.int .i64 (gi xs k)) := by
  obtain ⟨b', off', e, -, hc⟩ := h.at_ hk
  injection e with e
  injection e with e1 e2 _
  subst e1 e2
  exact hc k hk
set_option maxRecDepth 100000 in
set_option maxHeartbeats 8000000 in
theorem rinertia_any {w : World} {A : Option Addr} {n cap : Nat} {xss : List (List Int)} (h : AM w A n xss) (hr : ∀ i, i < n → rowL xss i = n) (hn : n ≤ 6) (hb : bndM n n (eI xss) ≤ 1125899906842624) {p q : Nat}
    (hq : chN (suS xss n (2 ^ n)) (n + 1) = q) (hp : chN (fun k => sg1 k * suS xss n (2 ^ n) k) (n + 1) = p) :
    Calls Try.prog 18 #[.slice A n cap] w fun e w' => e = .returned (.tuple #[.int .i64 p, .int .i64 q, .int .i64 ((n : Int) - p - q)]) ∧ Below w.heap.size w w' := by
  have HX := Lib.hid h
  have HSM := Lib.hid (rsums_any (cap := cap) h hr hn hb)
  have hbd : ∀ k, (suS xss n (2 ^ n) k).natAbs ≤ 64 * 1125899906842624 := fun k => Nat.le_trans (suS_bd hb k (2 ^ n)) (Nat.mul_le_mul_right _ (pow64 hn))
  obtain ⟨m, hm⟩ : ∃ m, n + 1 = m := ⟨_, rfl⟩
  have hm7 : m ≤ 7 := by omega
  obtain ⟨S, hS⟩ : ∃ S, suL xss n (2 ^ n) = S := ⟨_, rfl⟩
  have hSl : S.length = m := by rw [← hS, suL_len, hm]
  have hSg : ∀ k, k < m → gi S k = suS xss n (2 ^ n) k := fun k hk => by rw [← hS]; exact suL_gi (by omega)
  have HSB : Hid (∀ k, k < m → (gi S k).natAbs ≤ 64 * 1125899906842624) := Lib.hid fun k hk => by rw [hSg k hk]; exact hbd k
  have HP : Hid (chN (gi (plL S m)) m = p) := Lib.hid (by
    rw [← hp, ← hm]
    exact (chN_lt fun k hk => by rw [plL_gi hk, hSg k (by omega)]).1)
  have HQ : Hid (chN (gi S) m = q) := Lib.hid (by
    rw [← hq, ← hm]
    exact (chN_lt fun k hk => hSg k (by omega)).1)
  have hpm : p ≤ 64 := by rw [← HP.out]; have := chN_le (gi (plL S m)) m; omega
  have hqm : q ≤ 64 := by rw [← HQ.out]; have := chN_le (gi S) m; omega
  have HSL := Lib.hid hSl
  rw [hS] at HSM
  clear h hr hb hbd hp hq hm hS hSl hSg
  go_enter Try.func18, Try.ntmps18
  go_wp2_with fail
  refine HSM.out.mono ?_
  rintro e w1 ⟨V, rfl, ho, hb1⟩
  obtain ⟨A5, c5, rfl, -, -, hrd⟩ := ho.reads
  rw [HSL.out]
  have HR := Lib.hid (hrd.imp fun b h => h.2)
  have HB1 := Lib.hid hb1
  clear ho hrd hb1 HSM
  go_wp2_with fail
  go_loopw [6, 7, 8] (fun v6 v7 k' wr => ∃ k : Nat, k ≤ m ∧ k' = .int .i64 k ∧ Hid (O2 wr w1.heap.size v6 v7 (plL S k) (S.take k)) ∧ Hid (Below w1.heap.size w1 wr)) (fun _ _ k _ => m - (intOf k).toNat)
  case atStart => exact ⟨0, Nat.zero_le _, rfl, O2.nil _ _, Below.refl _ _⟩
  case round =>
    obtain ⟨k, hk, rfl, HO, HB⟩ := hrel
    have hrb := HR.out.below HB.out
    by_cases hlt : k < m
    · obtain ⟨b, off, rfl, -, hcell⟩ := hrb.at_ (k := k) (by rw [HSL.out]; exact hlt)
      have k0 := hcell k (by rw [HSL.out]; exact hlt)
      obtain ⟨x, hx⟩ : ∃ x, gi S k = x := ⟨_, rfl⟩
      have HXE := Lib.hid hx
      have hxb := HSB.out k hlt
      rw [hx] at k0 hxb
      have HBb : Hid (b < wr.heap.size) := Lib.hid (World.block_lt_of_cell? _ _ k0)
      have HT : Hid (S.take (k + 1) = S.take k ++ [x]) := Lib.hid (by rw [take_gi (by rw [HSL.out]; exact hlt), hx])
      have HPL : Hid (plL S (k + 1) = plL S k ++ [sg1 k * x]) := Lib.hid (by rw [plL_succ, hx])
      have hsz := HB.out.size
      have HL7 : Hid ((S.take k).length < 1099511627776) := Lib.hid (by have := List.length_take_le k S; omega)
      have HL6 : Hid ((plL S k).length < 1099511627776) := Lib.hid (by rw [plL_len]; omega)
      have HO7 := Lib.hid HO.out.2.1
      clear hcell hx hrb
      go_upto_region 7 with (at_builtin; refine app1 HO7.out HL7.out hsz rfl rfl Try.underlying33 rfl rfl ?_; intro v7 w2 ho hg hob)
      have HBw2 := Lib.hid (HO7.out.grown_below HB.out hsz _ hg)
      have HO2' := Lib.hid (HO.out.symm.push ho hg hob).symm
      rw [← HT.out] at HO2'
      have k2 := RI.cell (HR.out.below HBw2.out) (k := k) (by rw [HSL.out]; exact hlt)
      rw [HXE.out] at k2
      have hsz2 := HBw2.out.size
      have HO6 := Lib.hid HO2'.out.1
      clear ho hg hob HO7 HO k0 HBb HB hsz
      by_cases hpar : k % 2 = 1
      case' pos =>
        have hk2 : (k : Int) % 2 = 1 := by omega
        have HPL2 : Hid (plL S (k + 1) = plL S k ++ [-x]) := Lib.hid (by rw [HPL.out]; unfold sg1; rw [if_neg (by omega)]; congr 2; omega)
        have z1 : IntKind.i64.wrap (-x) = -x := IntWalk.i64_in _ (by omega)
        go_wp2_with (at_builtin; refine app1 HO6.out HL6.out hsz2 rfl rfl Try.underlying33 rfl rfl ?_; intro v6 w3 ho hg hob)
      case' neg =>
        have hk2 : (k : Int) % 2 = 0 := by omega
        have HPL2 : Hid (plL S (k + 1) = plL S k ++ [x]) := Lib.hid (by rw [HPL.out]; unfold sg1; rw [if_pos (by omega)]; congr 2; omega)
        go_wp2_with (at_builtin; refine app1 HO6.out HL6.out hsz2 rfl rfl Try.underlying33 rfl rfl ?_; intro v6 w3 ho hg hob)
      all_goals
        have HBw3 := Lib.hid (HO6.out.grown_below HBw2.out hsz2 _ hg)
        have HO3' := Lib.hid (HO2'.out.push ho hg hob)
        rw [← HPL2.out] at HO3'
        clear ho hg hob HO6 HO2' HBw2 k2 hsz2
        go_roundw
        case rel => exact ⟨k + 1, by omega, by go_num, HO3', HBw3⟩
        case measure => simp [intOf]; omega
    · obtain rfl : k = m := by omega
      obtain ⟨h6, h7, -⟩ := HO.out
      rw [show S.take k = S from List.take_of_length_le (by rw [HSL.out]; exact Nat.le_refl _)] at h7
      obtain ⟨A6, c6, rfl, -, -, hr6⟩ := h6.reads
      obtain ⟨A7, c7, rfl, -, -, hr7⟩ := h7.reads
      have HPLL : Hid ((plL S k).length = k) := Lib.hid (plL_len S k)
      have HR6 := Lib.hid hr6
      have HR7 := Lib.hid hr7
      have HBF := Lib.hid (HB1.out.trans (HB.out.mono HB1.out.size))
      rw [HPLL.out, HSL.out]
      clear h6 h7 hr6 hr7 HO hrb
      go_wp2_with fail
      refine (rchanges_any HR6.out HPLL.out (by omega)).mono ?_
      rintro e w3 ⟨rfl, rfl⟩
      rw [HP.out]
      go_wp2_with fail
      refine (rchanges_any HR7.out HSL.out (by omega)).mono ?_
      rintro e w3 ⟨rfl, rfl⟩
      rw [HQ.out]
      have y1 : IntKind.i64.wrap ((n : Int) - (p : Int)) = (n : Int) - p := IntWalk.i64_in _ (by omega)
      have y2 : IntKind.i64.wrap ((n : Int) - (p : Int) - (q : Int)) = (n : Int) - p - q := IntWalk.i64_in _ (by omega)
      go_wp2_with fail
      exact bodyPost_ret (v := .tuple #[.int .i64 p, .int .i64 q, .int .i64 ((n : Int) - p - q)]) (by simp [results, Try.results18, go_sem]) rfl ⟨rfl, HBF.out⟩
theorem sqs_iff {xss : List (List Int)} (h : SqA xss) : SqS xss ↔ ∀ i, i < xss.length → ∀ j, j < xss.length → eI xss i j = eI xss j i := by
  constructor
  · intro hs i hi j hj
    rcases Nat.lt_trichotomy i j with e | e | e
    · exact (hs.2 j hj i e).symm
    · rw [e]
    · exact hs.2 i hi j e
  · exact fun hs => ⟨h, fun i hi j hj => hs i hi j (by omega)⟩
set_option maxHeartbeats 4000000 in
theorem rsym_any {w : World} {A : Option Addr} {n cap : Nat} {xss : List (List Int)} (h : AM w A n xss) (hq : SqA xss) (hn : n ≤ 64) :
    Calls Try.prog 16 #[.slice A n cap] w fun e w' => e = .returned (.bool (decide (SqS xss))) ∧ ∃ k, w' = w.drewN k := by
  have HX := Lib.hid h.rd
  have HN := Lib.hid h.ln
  have HS := Lib.hid (sqs_iff hq)
  have HL : Hid (∀ i, i < n → rowL xss i = n) := Lib.hid fun i hi => by have := hq i (by rw [h.ln]; exact hi); rw [h.ln] at this; exact this
  clear h hq
  go_enter Try.func16, Try.ntmps16
  go_wp2_with fail
  go_loopw [3] (fun i' wr => ∃ i : Nat, i ≤ n ∧ i' = .int .i64 i ∧ Hid (∃ z, wr = w.drewN z) ∧ Hid (∀ x, x < i → ∀ y, y < n → eI xss x y = eI xss y x)) (fun i _ => n - (intOf i).toNat)
  case atStart => exact ⟨0, Nat.zero_le _, rfl, Lib.hid ⟨0, rfl⟩, fun x hx => by omega⟩
  case round =>
    obtain ⟨i, hin, rfl, HW, HE⟩ := hrel
    by_cases hlt : i < n
    · go_wp2_with fail
      go_loopw [4] (fun j' wr => ∃ j : Nat, j ≤ n ∧ j' = .int .i64 j ∧ Hid (∃ z, wr = w.drewN z) ∧ Hid (∀ y, y < j → eI xss i y = eI xss y i)) (fun j _ => n - (intOf j).toNat)
      case atStart => exact ⟨0, Nat.zero_le _, rfl, HW, fun x hx => by omega⟩
      case round =>
        clear HW
        obtain ⟨j, hj, rfl, HW, HF⟩ := hrel
        by_cases hlt2 : j < n
        · obtain ⟨b, off, rfl, hc⟩ := HX.out.cell (i := i) (by rw [HN.out]; exact hlt)
          obtain ⟨Ai, ci, c1, d1⟩ := hc i (by rw [HN.out]; exact hlt)
          obtain ⟨Aj, cj, c2, d2⟩ := hc j (by rw [HN.out]; exact hlt2)
          rw [HL.out i hlt] at c1 d1
          rw [HL.out j hlt2] at c2 d2
          obtain ⟨bi, oi, rfl, e1⟩ := d1 (by omega)
          obtain ⟨bj, oj, rfl, e2⟩ := d2 (by omega)
          have c3 := e1 j hlt2
          have c4 := e2 i hlt
          obtain ⟨x, hx⟩ : ∃ x, eI xss i j = x := ⟨_, rfl⟩
          obtain ⟨y, hy⟩ : ∃ y, eI xss j i = y := ⟨_, rfl⟩
          rw [hx] at c3
          rw [hy] at c4
          have HXE := Lib.hid hx
          have HYE := Lib.hid hy
          obtain ⟨z, rfl⟩ := HW.out
          clear hc d1 d2 e1 e2 hx hy HW
          by_cases hxy : x = y
          · have zz : (x != y) = false := by rw [bne_eq_false_iff_eq]; exact hxy
            have HF' : Hid (∀ y', y' < j + 1 → eI xss i y' = eI xss y' i) := Lib.hid fun y' hy' => by
              by_cases e : y' = j
              · rw [e, HXE.out, HYE.out]; exact hxy
              · exact HF.out y' (by omega)
            clear HF hxy
            go_wp2_with fail
            go_quiet (fail)
            go_wp2_with fail
            go_roundw
            case rel => exact ⟨j + 1, by omega, by go_num, Lib.hid ⟨_, rfl⟩, HF'⟩
            case measure => simp [intOf]; omega
          · have zz : (x != y) = true := by rw [bne_iff_ne]; exact hxy
            have HD := Lib.hid (decide_eq_false (show ¬ SqS xss from fun h => hxy (by have := HS.out.1 h i (by rw [HN.out]; exact hlt) j (by rw [HN.out]; exact hlt2); rw [HXE.out, HYE.out] at this; exact this)))
            clear hxy
            go_wp2_with fail
            go_quiet (fail)
            go_wp2_with fail
            go_ret
            exact ⟨ret_bool HD.out.symm, _, by first | rfl | rw [drewN2]⟩
        · obtain rfl : j = n := by omega
          have HE' : Hid (∀ x, x < i + 1 → ∀ y, y < j → eI xss x y = eI xss y x) := Lib.hid fun x hx y hy => by
            by_cases e : x = i
            · rw [e]; exact HF.out y hy
            · exact HE.out x (by omega) y hy
          clear HF HE
          go_wp2_with fail
          go_roundw
          case rel => exact ⟨i + 1, by omega, by go_num, HW, HE'⟩
          case measure => simp [intOf]; omega
    · obtain rfl : i = n := by omega
      have HD := Lib.hid (decide_eq_true (show SqS xss from HS.out.2 (by rw [HN.out]; exact HE.out)))
      obtain ⟨z, rfl⟩ := HW.out
      go_wp2_with fail
      go_ret
      exact ⟨ret_bool HD.out.symm, _, by first | rfl | rw [drewN2]⟩
end Go.Proofs.Yteanhbldhaiekaa

