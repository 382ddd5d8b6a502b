/-
  Ranks of matchings: the parts of a matching, its rank, the matching of a rank. No program here.
-/
import Derived.Test.YtmmcpahaekpknaaJoinT
import Derived.Test.YtmmcpahaekpknaaAllM
import Derived.Test.YtmmcpahaekpknaaRefCat
namespace Go.Proofs.Ytmmcpahaekpknaa

def segL (xs : List Int) (lo m : Nat) : List Int := (List.range m).map fun j => gi xs (j + lo) - (lo : Int)

theorem segL_length (xs : List Int) (lo m : Nat) : (segL xs lo m).length = m := by simp [segL]
theorem gi_segL {xs : List Int} {lo m j : Nat} (h : j < m) : gi (segL xs lo m) j = gi xs (j + lo) - (lo : Int) := by
  unfold segL
  rw [gi, List.getD_eq_getElem?_getD, List.getElem?_map, List.getElem?_range h]
  rfl
theorem segL_segL {xs : List Int} {lo m lo' m' : Nat} (h : lo' + m' ≤ m) : segL (segL xs lo m) lo' m' = segL xs (lo + lo') m' := by
  apply ext_gi
  · rw [segL_length, segL_length]
  · intro j hj
    rw [segL_length] at hj
    rw [gi_segL hj, gi_segL (by omega), gi_segL hj, show j + lo' + lo = j + (lo + lo') by omega]
    omega
theorem segL_all (xs : List Int) : segL xs 0 xs.length = xs := by
  apply ext_gi
  · rw [segL_length]
  · intro j hj
    rw [segL_length] at hj
    rw [gi_segL hj]
    simp

section
variable {xs : List Int} (h : IsM xs)
include h

theorem even_seg : ∀ (d i j : Nat), i < xs.length → i < j → j ≤ gn xs i → gn xs i - j = d → (∀ t, i < t → t < j → gn xs t < j ∧ i < gn xs t) → d % 2 = 0 := by
  intro d
  induction d using Nat.strongRecOn with
  | ind d ih =>
    intro i j hi hij hj hd hcl
    by_cases he : j = gn xs i
    · omega
    obtain ⟨g1, g2, g3, -⟩ := isM_gn h hi
    have hjl : j < xs.length := by omega
    obtain ⟨q1, q2, q3, -⟩ := isM_gn h hjl
    have hin := nc_in h g1 (by rw [g3]; omega) (i := j) (by rw [g3]; exact hij) (by omega)
    rw [g3] at hin
    have hq : j < gn xs j := by
      rcases Nat.lt_or_ge j (gn xs j) with h' | h'
      · exact h'
      · have := (hcl (gn xs j) hin.1 (by omega)).1
        rw [q3] at this
        omega
    have e1 := ih (gn xs j - (j + 1)) (by omega) j (j + 1) hjl (by omega) (by omega) rfl (fun t h1 h2 => by omega)
    have e2 := ih (gn xs i - (gn xs j + 1)) (by omega) i (gn xs j + 1) hi (by omega) (by omega) rfl (fun t h1 h2 => by
      rcases Nat.lt_trichotomy t j with h3 | h3 | h3
      · have := hcl t h1 h3; omega
      · subst h3; omega
      · rcases Nat.lt_or_ge t (gn xs j) with h4 | h4
        · have := nc_in h q1 (by rw [q3]; exact hq) (i := t) (by rw [q3]; exact h3) h4
          rw [q3] at this
          omega
        · have h5 : t = gn xs j := by omega
          subst h5
          rw [q3]; omega)
    omega

theorem seg_isM {lo m : Nat} (hm : m % 2 = 0) (hl : lo + m ≤ xs.length) (hc : ∀ t, lo ≤ t → t < lo + m → lo ≤ gn xs t ∧ gn xs t < lo + m) : IsM (segL xs lo m) := by
  have h48 := h.2.1
  refine ⟨by rw [segL_length]; exact hm, by rw [segL_length]; omega, ?_, ?_⟩
  · intro i hi
    rw [segL_length] at hi ⊢
    obtain ⟨g1, g2, g3, g4⟩ := isM_gn h (show i + lo < xs.length by omega)
    obtain ⟨c1, c2⟩ := hc (i + lo) (by omega) (by omega)
    rw [gi_segL hi, g4]
    have e : ((gn xs (i + lo) : Int) - (lo : Int)).toNat = gn xs (i + lo) - lo := by omega
    refine ⟨by omega, by omega, by omega, ?_⟩
    rw [e, gi_segL (by omega), show gn xs (i + lo) - lo + lo = gn xs (i + lo) by omega, (isM_gn h g1).2.2.2, g3]
    omega
  · intro q hq i hi h1 h2
    rw [segL_length] at hq
    rw [gi_segL hq] at h1 h2
    rw [gi_segL (by omega)]
    have := h.2.2.2 (q + lo) (by omega) (i + lo) (by omega) (by omega) (by omega)
    omega

theorem first_arc (hpos : 0 < xs.length) : ∃ k, gn xs 0 = 2 * k + 1 ∧ 2 * k + 2 ≤ xs.length := by
  obtain ⟨g1, g2, g3, g4⟩ := isM_gn h hpos
  have := even_seg h (gn xs 0 - 1) 0 1 hpos (by omega) (by omega) rfl (fun t h1 h2 => by omega)
  exact ⟨(gn xs 0 - 1) / 2, by omega, by omega⟩

theorem decomp {k : Nat} (hpos : 0 < xs.length) (hk : gn xs 0 = 2 * k + 1) :
    IsM (segL xs 1 (2 * k)) ∧ IsM (segL xs (2 * k + 2) (xs.length - (2 * k + 2))) ∧ glue k (segL xs 1 (2 * k)) (segL xs (2 * k + 2) (xs.length - (2 * k + 2))) = xs := by
  obtain ⟨g1, g2, g3, g4⟩ := isM_gn h hpos
  rw [hk] at g1 g3 g4
  obtain ⟨v1, v2, v3, v4⟩ := isM_gn h g1
  have h0 := h.1
  have hin : ∀ t, 0 < t → t < 2 * k + 1 → 0 < gn xs t ∧ gn xs t < 2 * k + 1 := fun t h1 h2 => by
    have := nc_in h g1 (by rw [g3]; omega) (i := t) (by rw [g3]; exact h1) h2
    rw [g3] at this
    exact this
  refine ⟨seg_isM h (by omega) (by omega) (fun t h1 h2 => by have := hin t (by omega) (by omega); omega), seg_isM h (by omega) (by omega) (fun t h1 h2 => ?_), ?_⟩
  · obtain ⟨t1, t2, t3, t4⟩ := isM_gn h (show t < xs.length by omega)
    refine ⟨?_, by omega⟩
    rcases Nat.lt_or_ge (gn xs t) (2 * k + 2) with h' | h'
    · exfalso
      by_cases e0 : gn xs t = 0
      · rw [e0, hk] at t3; omega
      by_cases e1 : gn xs t = 2 * k + 1
      · rw [e1, g3] at t3; omega
      have := hin (gn xs t) (by omega) (by omega)
      rw [t3] at this
      omega
    · exact h'
  · apply ext_gi
    · rw [glue_length, segL_length, segL_length]; omega
    · intro j hj
      rw [glue_length, segL_length, segL_length] at hj
      rw [gi_glue (segL_length _ _ _) j (by rw [segL_length, segL_length]; exact hj)]
      split
      · rename_i e; rw [e, g4]
      split
      · rw [gi_segL (by omega), show j - 1 + 1 = j by omega]
        omega
      split
      · rename_i e; rw [e, v4, g3]; rfl
      · rw [gi_segL (by omega), show j - (2 * k + 2) + (2 * k + 2) = j by omega]
        omega
end

/-- the rank of a matching -/
def rkF : Nat → List Int → Nat
  | 0, _ => 0
  | f + 1, xs => if xs.length = 0 then 0 else
      convC (xs.length / 2) ((gn xs 0 - 1) / 2) + rkF f (segL xs 1 (2 * ((gn xs 0 - 1) / 2))) * catN (xs.length / 2 - 1 - (gn xs 0 - 1) / 2) +
        rkF f (segL xs (2 * ((gn xs 0 - 1) / 2) + 2) (xs.length - (2 * ((gn xs 0 - 1) / 2) + 2)))
def rk (xs : List Int) : Nat := rkF (xs.length + 1) xs

theorem rkF_fuel : ∀ (f g : Nat) (xs : List Int), IsM xs → xs.length < f → xs.length < g → rkF f xs = rkF g xs := by
  intro f
  induction f with
  | zero => intro g xs _ h; omega
  | succ f ih =>
    intro g xs hM hf hg
    obtain ⟨g, rfl⟩ : ∃ g', g = g' + 1 := ⟨g - 1, by omega⟩
    by_cases h0 : xs.length = 0
    · rw [rkF, rkF, if_pos h0, if_pos h0]
    · obtain ⟨k, hk, hk2⟩ := first_arc hM (by omega)
      obtain ⟨d1, d2, -⟩ := decomp hM (by omega) hk
      have ek : (gn xs 0 - 1) / 2 = k := by omega
      rw [rkF, rkF, if_neg h0, if_neg h0, ek, ih g _ d1 (by rw [segL_length]; omega) (by rw [segL_length]; omega), ih g _ d2 (by rw [segL_length]; omega) (by rw [segL_length]; omega)]

theorem rk_nil {xs : List Int} (h : xs.length = 0) : rk xs = 0 := by unfold rk; rw [rkF, if_pos h]
theorem rk_eq {xs : List Int} (hM : IsM xs) {k : Nat} (hpos : 0 < xs.length) (hk : gn xs 0 = 2 * k + 1) :
    rk xs = convC (xs.length / 2) k + rk (segL xs 1 (2 * k)) * catN (xs.length / 2 - 1 - k) + rk (segL xs (2 * k + 2) (xs.length - (2 * k + 2))) := by
  obtain ⟨d1, d2, -⟩ := decomp hM hpos hk
  obtain ⟨g1, -⟩ := isM_gn hM hpos
  have ek : (gn xs 0 - 1) / 2 = k := by omega
  have e : rk xs = rkF (xs.length + 1) xs := rfl
  rw [e, rkF, if_neg (by omega), ek, rkF_fuel _ ((segL xs 1 (2 * k)).length + 1) _ d1 (by rw [segL_length]; omega) (by omega),
    rkF_fuel _ ((segL xs (2 * k + 2) (xs.length - (2 * k + 2))).length + 1) _ d2 (by rw [segL_length]; omega) (by omega)]
  rfl

theorem conv_le {n k j : Nat} (h : k ≤ j) : convC n k ≤ convC n j := by
  obtain ⟨d, rfl⟩ : ∃ d, j = k + d := ⟨j - k, by omega⟩
  exact conv_mono n k d

theorem rk_lt : ∀ (f : Nat) (xs : List Int), IsM xs → xs.length < f → rk xs < catN (xs.length / 2) := by
  intro f
  induction f with
  | zero => intro xs _ h; omega
  | succ f ih =>
    intro xs hM hf
    by_cases h0 : xs.length = 0
    · rw [rk_nil h0, h0]; decide
    · have h48 := hM.2.1
      have heven := hM.1
      obtain ⟨k, hk, hk2⟩ := first_arc hM (by omega)
      obtain ⟨d1, d2, -⟩ := decomp hM (by omega) hk
      have i1 := ih _ d1 (by rw [segL_length]; omega)
      have i2 := ih _ d2 (by rw [segL_length]; omega)
      rw [segL_length] at i1 i2
      rw [rk_eq hM (by omega) hk]
      have e1 : 2 * k / 2 = k := by omega
      have e2 : (xs.length - (2 * k + 2)) / 2 = xs.length / 2 - 1 - k := by omega
      rw [e1] at i1
      rw [e2] at i2
      have hfull := conv_full (xs.length / 2) (by omega) (by omega)
      have hle : convC (xs.length / 2) (k + 1) ≤ convC (xs.length / 2) (xs.length / 2) := conv_le (by omega)
      rw [hfull, convC] at hle
      have h3 : (rk (segL xs 1 (2 * k)) + 1) * catN (xs.length / 2 - 1 - k) ≤ catN k * catN (xs.length / 2 - 1 - k) := Nat.mul_le_mul_right _ i1
      rw [Nat.add_mul] at h3
      omega

/-- the matching of a rank -/
def kF (n r : Nat) : Nat → Nat → Nat
  | 0, k => k
  | f + 1, k => if convC n (k + 1) ≤ r then kF n r f (k + 1) else k
theorem kF_is {n r j : Nat} (h1 : convC n j ≤ r) (h2 : r < convC n (j + 1)) : ∀ (f k : Nat), k ≤ j → j - k < f → kF n r f k = j := by
  intro f
  induction f with
  | zero => intro k _ h; omega
  | succ f ih =>
    intro k hk hf
    rw [kF]
    by_cases e : k = j
    · subst e; rw [if_neg (by omega)]
    · have : convC n (k + 1) ≤ convC n j := conv_le (by omega)
      rw [if_pos (by omega)]
      exact ih (k + 1) (by omega) (by omega)
theorem conv_find {n r : Nat} : ∀ m, r < convC n m → ∃ k, k < m ∧ convC n k ≤ r ∧ r < convC n (k + 1)
  | 0, h => by simp [convC] at h
  | m + 1, h => by
    by_cases h' : convC n m ≤ r
    · exact ⟨m, by omega, h', h⟩
    · obtain ⟨k, h1, h2⟩ := conv_find (n := n) (r := r) m (by omega)
      exact ⟨k, by omega, h2⟩

def unF : Nat → Nat → Nat → List Int
  | 0, _, _ => []
  | f + 1, n, r => if n = 0 then [] else
      glue (kF n r n 0) (unF f (kF n r n 0) ((r - convC n (kF n r n 0)) / catN (n - 1 - kF n r n 0))) (unF f (n - 1 - kF n r n 0) ((r - convC n (kF n r n 0)) % catN (n - 1 - kF n r n 0)))
def unr (n r : Nat) : List Int := unF (n + 1) n r

theorem kF_le (n r : Nat) : ∀ f k, kF n r f k ≤ k + f
  | 0, k => Nat.le_refl _
  | f + 1, k => by
    rw [kF]
    split
    · have := kF_le n r f (k + 1); omega
    · omega
theorem unr_zero (r : Nat) : unr 0 r = [] := rfl
theorem quot_lt {n r k : Nat} (h1 : convC n k ≤ r) (h2 : r < convC n (k + 1)) : (r - convC n k) / catN (n - 1 - k) < catN k := by
  rw [convC] at h2
  exact Nat.div_lt_of_lt_mul (by rw [Nat.mul_comm]; omega)
theorem unF_fuel : ∀ (f g n r : Nat), n < f → n < g → n < 31 → r < catN n → unF f n r = unF g n r := by
  intro f
  induction f with
  | zero => intro g n r h; omega
  | succ f ih =>
    intro g n r hf hg hn hr
    obtain ⟨g, rfl⟩ : ∃ g', g = g' + 1 := ⟨g - 1, by omega⟩
    by_cases h0 : n = 0
    · rw [unF, unF, if_pos h0, if_pos h0]
    · obtain ⟨k, hk, h1, h2⟩ := conv_find n (by rw [conv_full n hn (by omega)]; exact hr)
      rw [unF, unF, if_neg h0, if_neg h0, kF_is h1 h2 n 0 (by omega) (by omega), ih g k _ (by omega) (by omega) (by omega) (quot_lt h1 h2),
        ih g (n - 1 - k) _ (by omega) (by omega) (by omega) (Nat.mod_lt _ (cat_bounds (show n - 1 - k < 31 by omega)).1)]
theorem unr_eq {n r k : Nat} (hn : n < 31) (hk : k < n) (h1 : convC n k ≤ r) (h2 : r < convC n (k + 1)) :
    unr n r = glue k (unr k ((r - convC n k) / catN (n - 1 - k))) (unr (n - 1 - k) ((r - convC n k) % catN (n - 1 - k))) := by
  unfold unr
  rw [unF, if_neg (by omega), kF_is h1 h2 n 0 (by omega) (by omega), unF_fuel n (k + 1) k _ (by omega) (by omega) (by omega) (quot_lt h1 h2),
    unF_fuel n (n - 1 - k + 1) (n - 1 - k) _ (by omega) (by omega) (by omega) (Nat.mod_lt _ (cat_bounds (show n - 1 - k < 31 by omega)).1)]
theorem unr_len : ∀ (f n r : Nat), n < f → n < 31 → r < catN n → (unr n r).length = 2 * n := by
  intro f
  induction f with
  | zero => intro n r h; omega
  | succ f ih =>
    intro n r hf hn hr
    by_cases h0 : n = 0
    · subst h0; rfl
    · obtain ⟨k, hk, h1, h2⟩ := conv_find n (by rw [conv_full n hn (by omega)]; exact hr)
      rw [unr_eq hn hk h1 h2, glue_length, ih k _ (by omega) (by omega) (quot_lt h1 h2), ih (n - 1 - k) _ (by omega) (by omega) (Nat.mod_lt _ (cat_bounds (show n - 1 - k < 31 by omega)).1)]
      omega

section
variable {a b : List Int} {k : Nat} (hal : a.length = 2 * k)
include hal
theorem glue_first : gn (glue k a b) 0 = 2 * k + 1 := by
  unfold gn
  rw [gi_glue hal 0 (by omega), if_pos rfl]
  omega
theorem glue_inner : segL (glue k a b) 1 (2 * k) = a := by
  apply ext_gi
  · rw [segL_length, hal]
  · intro j hj
    rw [segL_length] at hj
    rw [gi_segL hj, gi_glue hal (j + 1) (by omega), if_neg (by omega), if_pos (by omega), Nat.add_sub_cancel]
    omega
theorem glue_outer : segL (glue k a b) (2 * k + 2) b.length = b := by
  apply ext_gi
  · rw [segL_length]
  · intro j hj
    rw [segL_length] at hj
    rw [gi_segL hj, gi_glue hal (j + (2 * k + 2)) (by omega), if_neg (by omega), if_neg (by omega), if_neg (by omega), Nat.add_sub_cancel]
    omega

theorem glue_isM (ha : IsM a) (hb : IsM b) (hl : a.length + b.length + 2 ≤ 48) : IsM (glue k a b) := by
  have he := hb.1
  have hg := fun j hj => gi_glue (b := b) hal j hj
  have hlen := glue_length k a b
  refine ⟨by rw [hlen]; omega, by rw [hlen]; exact hl, ?_, ?_⟩
  · intro i hi
    rw [hlen] at hi ⊢
    rw [hg i hi]
    split
    · rename_i e
      subst e
      refine ⟨by omega, by omega, by omega, ?_⟩
      rw [Int.toNat_natCast, hg _ (by omega), if_neg (by omega), if_neg (by omega), if_pos rfl]
      rfl
    split
    · rename_i e0 e1
      obtain ⟨g1, g2, g3, g4⟩ := isM_gn ha (show i - 1 < a.length by omega)
      rw [g4]
      have e : ((gn a (i - 1) : Int) + 1).toNat = gn a (i - 1) + 1 := by omega
      refine ⟨by omega, by omega, by omega, ?_⟩
      rw [e, hg _ (by omega), if_neg (by omega), if_pos (by omega), Nat.add_sub_cancel, (isM_gn ha g1).2.2.2, g3]
      omega
    split
    · rename_i e0 e1 e2
      subst e2
      refine ⟨by omega, by omega, by omega, ?_⟩
      rw [show (0 : Int).toNat = 0 from rfl, hg 0 (by omega), if_pos rfl]
    · rename_i e0 e1 e2
      obtain ⟨g1, g2, g3, g4⟩ := isM_gn hb (show i - (2 * k + 2) < b.length by omega)
      rw [g4]
      have e : ((gn b (i - (2 * k + 2)) : Int) + ((2 * k + 2 : Nat) : Int)).toNat = gn b (i - (2 * k + 2)) + (2 * k + 2) := by omega
      refine ⟨by omega, by omega, by omega, ?_⟩
      rw [e, hg _ (by omega), if_neg (by omega), if_neg (by omega), if_neg (by omega), Nat.add_sub_cancel, (isM_gn hb g1).2.2.2, g3]
      omega
  · intro q hq i hi h1 h2
    rw [hlen] at hq
    rw [hg q hq] at h1 h2
    rw [hg i (by omega)]
    by_cases q0 : q = 0
    · omega
    rw [if_neg q0] at h1 h2
    by_cases q1 : q < 2 * k + 1
    · rw [if_pos q1] at h1 h2
      by_cases i0 : i = 0
      · obtain ⟨g1, g2, g3, g4⟩ := isM_gn ha (show q - 1 < a.length by omega)
        rw [g4] at h2
        omega
      rw [if_neg i0, if_pos (by omega)]
      have := ha.2.2.2 (q - 1) (by omega) (i - 1) (by omega) (by omega) (by omega)
      omega
    rw [if_neg q1] at h1 h2
    by_cases q2 : q = 2 * k + 1
    · rw [if_neg (by omega), if_pos (by omega)]
      have := (isM_gn ha (show i - 1 < a.length by omega))
      obtain ⟨g1, g2, g3, g4⟩ := this
      rw [if_pos q2] at h2
      rw [g4]
      omega
    rw [if_neg q2] at h1 h2
    obtain ⟨g1, g2, g3, g4⟩ := isM_gn hb (show q - (2 * k + 2) < b.length by omega)
    rw [g4] at h1 h2
    rw [if_neg (by omega), if_neg (by omega), if_neg (by omega)]
    have := hb.2.2.2 (q - (2 * k + 2)) (by omega) (i - (2 * k + 2)) (by omega) (by rw [g4]; omega) (by rw [g4]; omega)
    omega

theorem rk_glue (ha : IsM a) (hb : IsM b) {n : Nat} (hl : a.length + b.length + 2 = 2 * n) (hn : n ≤ 24) : rk (glue k a b) = convC n k + rk a * catN (n - 1 - k) + rk b := by
  have hlen := glue_length k a b
  have hM := glue_isM hal ha hb (by omega)
  have e1 : (glue k a b).length - (2 * k + 2) = b.length := by omega
  have e2 : (glue k a b).length / 2 = n := by omega
  rw [rk_eq hM (by omega) (glue_first hal), glue_inner hal, e1, glue_outer hal, e2]
end

theorem nil_isM : IsM [] := by decide

theorem unr_spec : ∀ (f n r : Nat), n < f → n ≤ 24 → r < catN n → IsM (unr n r) ∧ rk (unr n r) = r := by
  intro f
  induction f with
  | zero => intro n r h; omega
  | succ f ih =>
    intro n r hf hn hr
    by_cases h0 : n = 0
    · subst h0
      exact ⟨nil_isM, by rw [unr_zero, rk_nil rfl]; have : catN 0 = 1 := rfl; omega⟩
    · obtain ⟨k, hk, h1, h2⟩ := conv_find n (by rw [conv_full n (by omega) (by omega)]; exact hr)
      have hc := (cat_bounds (show n - 1 - k < 31 by omega)).1
      have hq := quot_lt h1 h2
      have hm : (r - convC n k) % catN (n - 1 - k) < catN (n - 1 - k) := Nat.mod_lt _ hc
      obtain ⟨a1, a2⟩ := ih k _ (by omega) (by omega) hq
      obtain ⟨b1, b2⟩ := ih (n - 1 - k) _ (by omega) (by omega) hm
      have la := unr_len (k + 1) k _ (by omega) (by omega) hq
      have lb := unr_len (n - 1 - k + 1) (n - 1 - k) _ (by omega) (by omega) hm
      rw [unr_eq (by omega) hk h1 h2]
      refine ⟨glue_isM la a1 b1 (by omega), ?_⟩
      rw [rk_glue la a1 b1 (n := n) (by omega) hn, a2, b2]
      have := Nat.div_add_mod (r - convC n k) (catN (n - 1 - k))
      rw [Nat.mul_comm] at this
      omega

theorem unr_rk : ∀ (f : Nat) (xs : List Int), IsM xs → xs.length < f → unr (xs.length / 2) (rk xs) = xs := by
  intro f
  induction f with
  | zero => intro xs _ h; omega
  | succ f ih =>
    intro xs hM hf
    by_cases h0 : xs.length = 0
    · rw [h0, unr_zero]
      exact (List.eq_nil_of_length_eq_zero h0).symm
    · have h48 := hM.2.1
      have heven := hM.1
      obtain ⟨k, hk, hk2⟩ := first_arc hM (by omega)
      obtain ⟨d1, d2, d3⟩ := decomp hM (by omega) hk
      have i1 := ih _ d1 (by rw [segL_length]; omega)
      have i2 := ih _ d2 (by rw [segL_length]; omega)
      have r1 := rk_lt _ _ d1 (Nat.lt_succ_self _)
      have r2 := rk_lt _ _ d2 (Nat.lt_succ_self _)
      have e := rk_eq hM (by omega) hk
      rw [segL_length] at i1 i2 r1 r2
      have e1 : 2 * k / 2 = k := by omega
      have e2 : (xs.length - (2 * k + 2)) / 2 = xs.length / 2 - 1 - k := by omega
      rw [e1] at i1 r1
      rw [e2] at i2 r2
      have h3 : (rk (segL xs 1 (2 * k)) + 1) * catN (xs.length / 2 - 1 - k) ≤ catN k * catN (xs.length / 2 - 1 - k) := Nat.mul_le_mul_right _ r1
      rw [Nat.add_mul] at h3
      have hc := (cat_bounds (show xs.length / 2 - 1 - k < 31 by omega)).1
      have hr : rk xs - convC (xs.length / 2) k = rk (segL xs 1 (2 * k)) * catN (xs.length / 2 - 1 - k) + rk (segL xs (2 * k + 2) (xs.length - (2 * k + 2))) := by omega
      have hd : (rk xs - convC (xs.length / 2) k) / catN (xs.length / 2 - 1 - k) = rk (segL xs 1 (2 * k)) := by
        rw [hr, Nat.mul_comm, Nat.mul_add_div hc, Nat.div_eq_of_lt r2]; rfl
      have hmo : (rk xs - convC (xs.length / 2) k) % catN (xs.length / 2 - 1 - k) = rk (segL xs (2 * k + 2) (xs.length - (2 * k + 2))) := by
        rw [hr, Nat.mul_comm, Nat.mul_add_mod, Nat.mod_eq_of_lt r2]
      rw [unr_eq (k := k) (by omega) (by omega) (by omega) (by rw [convC]; omega), hd, hmo, i1, i2, d3]

/-- ascending: the first difference is a rise -/
def LexLt (xs ys : List Int) : Prop := ∃ i, i < xs.length ∧ (∀ j, j < i → gi xs j = gi ys j) ∧ gi xs i < gi ys i

theorem unr_asc : ∀ (f n r s : Nat), n < f → n ≤ 24 → r < s → s < catN n → LexLt (unr n r) (unr n s) := by
  intro f
  induction f with
  | zero => intro n r s h; omega
  | succ f ih =>
    intro n r s hf hn hrs hs
    by_cases h0 : n = 0
    · subst h0
      have : catN 0 = 1 := rfl
      omega
    · obtain ⟨k, hk, h1, h2⟩ := conv_find (n := n) (r := r) n (by rw [conv_full n (by omega) (by omega)]; omega)
      obtain ⟨l, hl, h3, h4⟩ := conv_find (n := n) (r := s) n (by rw [conv_full n (by omega) (by omega)]; exact hs)
      have hc := (cat_bounds (show n - 1 - k < 31 by omega)).1
      have hq := quot_lt h1 h2
      have hm : (r - convC n k) % catN (n - 1 - k) < catN (n - 1 - k) := Nat.mod_lt _ hc
      have la := unr_len (k + 1) k _ (by omega) (by omega) hq
      have lb := unr_len (n - 1 - k + 1) (n - 1 - k) _ (by omega) (by omega) hm
      have hc' := (cat_bounds (show n - 1 - l < 31 by omega)).1
      have hq' := quot_lt h3 h4
      have hm' : (s - convC n l) % catN (n - 1 - l) < catN (n - 1 - l) := Nat.mod_lt _ hc'
      have la' := unr_len (l + 1) l _ (by omega) (by omega) hq'
      have lb' := unr_len (n - 1 - l + 1) (n - 1 - l) _ (by omega) (by omega) hm'
      have hkl : k ≤ l := by
        rcases Nat.lt_or_ge l k with h | h
        · have : convC n (l + 1) ≤ convC n k := conv_le (by omega)
          omega
        · exact h
      rw [unr_eq (by omega) hk h1 h2, unr_eq (by omega) hl h3 h4]
      by_cases e : k = l
      · subst e
        have hdm : (r - convC n k) / catN (n - 1 - k) ≤ (s - convC n k) / catN (n - 1 - k) := Nat.div_le_div_right (by omega)
        by_cases hd : (r - convC n k) / catN (n - 1 - k) = (s - convC n k) / catN (n - 1 - k)
        · have hlt : (r - convC n k) % catN (n - 1 - k) < (s - convC n k) % catN (n - 1 - k) := by
            have x1 := Nat.div_add_mod (r - convC n k) (catN (n - 1 - k))
            have x2 := Nat.div_add_mod (s - convC n k) (catN (n - 1 - k))
            rw [hd] at x1
            omega
          obtain ⟨i, i1, i2, i3⟩ := ih (n - 1 - k) _ _ (by omega) (by omega) hlt hm'
          rw [hd]
          refine ⟨i + (2 * k + 2), by rw [glue_length]; omega, fun j hj => ?_, ?_⟩
          · rw [gi_glue la' j (by omega), gi_glue la' j (by omega)]
            split
            · rfl
            split
            · rfl
            split
            · rfl
            · rw [i2 _ (by omega)]
          · rw [gi_glue la' _ (by omega), gi_glue la' _ (by omega), if_neg (by omega), if_neg (by omega), if_neg (by omega), if_neg (by omega), if_neg (by omega), if_neg (by omega), Nat.add_sub_cancel]
            omega
        · obtain ⟨i, i1, i2, i3⟩ := ih k _ _ (by omega) (by omega) (show (r - convC n k) / catN (n - 1 - k) < (s - convC n k) / catN (n - 1 - k) by omega) hq'
          refine ⟨i + 1, by rw [glue_length]; omega, fun j hj => ?_, ?_⟩
          · rw [gi_glue la j (by omega), gi_glue la' j (by omega)]
            split
            · rfl
            rw [if_pos (by omega), if_pos (by omega), i2 _ (by omega)]
          · rw [gi_glue la _ (by omega), gi_glue la' _ (by omega), if_neg (by omega), if_pos (by omega), if_neg (by omega), if_pos (by omega), Nat.add_sub_cancel]
            omega
      · refine ⟨0, by rw [glue_length]; omega, fun j hj => by omega, ?_⟩
        rw [gi_glue la _ (by omega), gi_glue la' _ (by omega), if_pos rfl, if_pos rfl]
        omega
end Go.Proofs.Ytmmcpahaekpknaa
