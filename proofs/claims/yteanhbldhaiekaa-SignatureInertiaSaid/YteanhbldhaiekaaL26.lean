/-
  Small laws of the statements of layer 26. No program here but the frames.
-/
import Derived.Test.YteanhbldhaiekaaAw26
import Derived.Test.YteanhbldhaiekaaRM
import Derived.Test.YteanhbldhaiekaaMArg
namespace Go.Proofs.Yteanhbldhaiekaa
open Go.RowKit

theorem det_dg (n : Nat) (d : Nat → Nat) : det n (dgM d) = pI n fun i => (d i : Int) := by
  rw [det_upper fun i j _ hj => by unfold dgM; rw [if_neg (by omega)]]
  exact pI_congr fun k _ => by unfold dgM; rw [if_pos rfl]
/-- the determinant up to its sign -/
theorem det_eqv {n : Nat} {A B : Mx} (h : Eqv n n A B) : det n B = det n A ∨ det n B = -det n A := by
  induction h with
  | refl => exact .inl rfl
  | cong _ hc ih => rw [det_congr hc]; exact ih
  | radd r s t h1 h2 h3 _ ih => rw [det_radd h1 h2 h3]; exact ih
  | cadd r s t h1 h2 h3 _ ih => rw [det_cadd h1 h2 h3]; exact ih
  | rsw r s h1 h2 h3 _ ih => rw [det_rswap h1 h2 h3]; rcases ih with e | e <;> rw [e] <;> omega
  | csw r s h1 h2 h3 _ ih => rw [det_cswap h1 h2 h3]; rcases ih with e | e <;> rw [e] <;> omega
  | @rneg B r h1 _ ih =>
    rw [det_rmul (A := B) (t := -1) h1 (fun i j _ _ hne => if_neg hne) (fun j _ => by rw [if_pos rfl]; omega)]
    rcases ih with e | e <;> rw [e] <;> omega
  | @cneg B r h1 _ ih =>
    rw [det_cmul (A := B) (t := -1) h1 (fun i j _ _ hne => if_neg hne) (fun j _ => by rw [if_pos rfl]; omega)]
    rcases ih with e | e <;> rw [e] <;> omega
/-- what the list of a small matrix is like -/
structure SmI (n c r : Nat) (m : Mx) (d : Nat → Nat) : Prop where
  rk : RkP n c m r
  rp : r ≤ min n c
  nz : ∀ j, j < r → d j ≠ 0
  z : ∀ j, r ≤ j → j < min n c → d j = 0
  pr : ∀ k, k ≤ min n c → pN k d ≤ bndM n c m
  le : ∀ j, j < min n c → d j ≤ bndM n c m
theorem pN_zero {d : Nat → Nat} {j : Nat} (h0 : d j = 0) : ∀ {k : Nat}, j < k → pN k d = 0
  | k + 1, hj => by
    show pN k d * d k = 0
    by_cases e : j = k
    · rw [← e, h0, Nat.mul_zero]
    · rw [pN_zero h0 (show j < k by omega), Nat.zero_mul]
theorem pN_pI (d : Nat → Nat) : ∀ k, ((pN k d : Nat) : Int) = pI k fun i => (d i : Int)
  | 0 => rfl
  | k + 1 => by show ((pN k d * d k : Nat) : Int) = pI k _ * (d k : Int); rw [Int.natCast_mul, pN_pI d k]
theorem pN_dvd_mono {d : Nat → Nat} {k : Nat} : ∀ l, pN k d ∣ pN (k + l) d
  | 0 => Nat.dvd_refl _
  | l + 1 => Nat.dvd_trans (pN_dvd_mono l) (Nat.dvd_mul_right ..)
theorem ElR.smI {n c r : Nat} {m : Mx} {v : Int} {d : Nat → Nat} (h : ElR n c m r v) (he : Eqv n c m (dgM d)) (hd : Chain d (min n c)) : SmI n c r m d := by
  obtain ⟨h1, h2⟩ := elr_fac h he hd
  have hv : 0 < v.natAbs := Int.natAbs_pos.2 h.nz
  have hrn := h.rn
  have hrc := h.rc
  have hnz : ∀ j, j < r → d j ≠ 0 := fun j hj e => by
    have := h1 j hj
    rw [e] at this
    have := Nat.eq_zero_of_zero_dvd this
    omega
  have hpr : pN r d ∣ v.natAbs := by
    obtain ⟨is, js, s, i1, i2, hs, hv⟩ := h.mn
    have h1 := (dv_diag (n := n) (c := c) (k := r) (d := d) hd).eqv he.symm
    have h2 := h1 is js i1 i2
    rw [← pN_pI] at h2
    have h3 : ((pN r d : Nat) : Int) ∣ v := by rw [hv]; exact Int.dvd_trans h2 (Int.dvd_mul_left ..)
    exact Int.natCast_dvd_natCast.1 (Int.dvd_natAbs.2 h3)
  refine ⟨h.rk, by omega, hnz, h2, fun k hk => ?_, fun j hj => ?_⟩
  · by_cases hkr : k ≤ r
    · have := pN_dvd_mono (d := d) (k := k) (r - k)
      rw [show k + (r - k) = r by omega] at this
      exact Nat.le_trans (Nat.le_of_dvd hv (Nat.dvd_trans this hpr)) h.bd
    · rw [pN_zero (h2 r (Nat.le_refl _) (by omega)) (show r < k by omega)]
      exact Nat.zero_le _
  · exact elr_le h he hd hj
theorem Sml.lt {xss : List (List Int)} (h : Sml xss) : bndM xss.length (rowL xss 0) (eI xss) ≤ 1125899906842624 := h
theorem rkE_0 {xss : List (List Int)} (hm : IsM xss) (hs : Sml xss) : rkE xss = 0 := by unfold rkE; rw [if_pos hm, if_pos hs]
theorem rkE_9 {xss : List (List Int)} (hm : IsM xss) (hs : ¬ Sml xss) : rkE xss = 9 := by unfold rkE; rw [if_pos hm, if_neg hs]
theorem rkE_1 {xss : List (List Int)} (hm : ¬ IsM xss) : rkE xss = 1 := by unfold rkE; rw [if_neg hm]
theorem below_cons {w w1 w2 : World} (h : Below w.heap.size w w1) (hb : Below w1.heap.size w1 w2) : Below w.heap.size w w2 := h.trans (hb.mono h.size)
theorem u16_wf {n : Int} (h : (Lit.int .u16 n).wf = true) : 0 ≤ n ∧ n ≤ 65535 := by
  have hmin : IntKind.u16.min = 0 := rfl
  have hmax : IntKind.u16.max = 65535 := rfl
  simp only [Lit.wf, Bool.and_eq_true, decide_eq_true_eq] at h
  omega
end Go.Proofs.Yteanhbldhaiekaa

