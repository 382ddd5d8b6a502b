/-
  What divides all minors of a size; the diagonal form is one alone. No program here.
-/
import Derived.Test.YteanhbldhaiekaaZ05
namespace Go.Proofs.Yteanhbldhaiekaa

/-- g divides all minors with k rows -/
def Dv (n c k : Nat) (A : Mx) (g : Int) : Prop := ∀ is js : Nat → Nat, (∀ a, a < k → is a < n) → (∀ b, b < k → js b < c) → g ∣ det k fun a b => A (is a) (js b)

/-- a row that is a sum -/
theorem det_rsum {k r : Nat} (A : Mx) (V : Mx) (x : Nat → Int) (hr : r < k) : ∀ n, det k (fun a b => if a = r then sI n (fun i => x i * V i b) else A a b) = sI n fun i => x i * det k fun a b => if a = r then V i b else A a b
  | 0 => det_r0 hr fun j _ => by rw [if_pos rfl]; rfl
  | n + 1 => by
    rw [det_row (A := fun a b => if a = r then sI n (fun i => x i * V i b) else A a b) (B := fun a b => if a = r then V n b else A a b) (r := r) (t := x n) hr (fun i j _ _ hne => ⟨by rw [if_neg hne, if_neg hne], by rw [if_neg hne, if_neg hne]⟩) (fun j _ => by rw [if_pos rfl, if_pos rfl, if_pos rfl]; rfl),
      det_rsum A V x hr n]
    rfl
theorem dvd_sI {g : Int} : ∀ {n : Nat} {f : Nat → Int}, (∀ i, i < n → g ∣ f i) → g ∣ sI n f
  | 0, _, _ => Int.dvd_zero g
  | n + 1, _, h => Int.dvd_add (dvd_sI fun i hi => h i (by omega)) (h n (by omega))
/-- rows that are sums of rows -/
theorem rows_gen {k n : Nat} {V : Mx} {g : Int} (h : ∀ is : Nat → Nat, (∀ a, a < k → is a < n) → g ∣ det k fun a b => V (is a) b) (X : Mx) :
    ∀ t, t ≤ k → ∀ is : Nat → Nat, (∀ a, a < k → is a < n) → g ∣ det k fun a b => if a < t then sI n (fun i => X a i * V i b) else V (is a) b
  | 0, _, is, his => by
    have := h is his
    rwa [det_congr (B := fun a b => if a < 0 then sI n (fun i => X a i * V i b) else V (is a) b) fun a b _ _ => by rw [if_neg (by omega)]] at this
  | t + 1, ht, is, his => by
    rw [det_congr (B := fun a b => if a = t then sI n (fun i => X t i * V i b) else (if a < t then sI n (fun i => X a i * V i b) else V (is a) b)) fun a b _ _ => by
      by_cases e : a = t
      · subst e; rw [if_pos (by omega), if_pos rfl]
      · rw [if_neg e]
        by_cases e2 : a < t
        · rw [if_pos (by omega), if_pos e2]
        · rw [if_neg (by omega), if_neg e2], det_rsum _ _ _ (by omega)]
    refine dvd_sI fun i hi => Int.dvd_mul_of_dvd_right ?_
    have := rows_gen h X t (by omega) (fun a => if a = t then i else is a) fun a ha => by
      show (if a = t then i else is a) < n
      split
      · exact hi
      · exact his a ha
    rwa [det_congr (B := fun a b => if a = t then V i b else (if a < t then sI n (fun i => X a i * V i b) else V (is a) b)) fun a b _ _ => by
      by_cases e : a = t
      · subst e; rw [if_neg (by omega), if_pos rfl, if_pos rfl]
      · rw [if_neg e, if_neg e]] at this
theorem rows_all {k n : Nat} {V : Mx} {g : Int} (h : ∀ is : Nat → Nat, (∀ a, a < k → is a < n) → g ∣ det k fun a b => V (is a) b) (X : Mx) : g ∣ det k fun a b => sI n fun i => X a i * V i b := by
  by_cases hk : k = 0
  · subst hk; exact h (fun _ => 0) fun a ha => by omega
  by_cases hn : n = 0
  · subst hn
    rw [det_r0 (r := 0) (by omega) fun j _ => rfl]
    exact Int.dvd_zero g
  have := rows_gen h X k (Nat.le_refl _) (fun _ => 0) fun a _ => by omega
  rwa [det_congr (B := fun a b => sI n fun i => X a i * V i b) fun a b ha _ => by rw [if_pos ha]] at this
section
variable {n c k : Nat} {A B : Mx} {g : Int}
theorem Dv.tr (h : Dv n c k A g) : Dv c n k (fun i j => A j i) g := fun is js his hjs => by
  rw [← det_tr]
  exact h js is hjs his
/-- rows that are sums of rows, in any minor -/
theorem Dv.rows (h : Dv n c k A g) {m : Nat} (X : Mx) : Dv m c k (fun i j => sI n fun l => X i l * A l j) g := fun is js _ hjs =>
  rows_all (V := fun i b => A i (js b)) (fun is' his' => h is' js his' hjs) fun a i => X (is a) i
theorem Dv.congr (h : Dv n c k A g) (hc : ∀ i j, i < n → j < c → B i j = A i j) : Dv n c k B g := fun is js his hjs => by
  rw [det_congr (B := fun a b => A (is a) (js b)) fun a b ha hb => hc _ _ (his a ha) (hjs b hb)]
  exact h is js his hjs
theorem Dv.radd (h : Dv n c k A g) {r s : Nat} (t : Int) (hr : r < n) (hs : s < n) (hne : r ≠ s) : Dv n c k (fun i j => if i = r then A i j + t * A s j else A i j) g := by
  refine (h.rows (m := n) fun i l => if i = r then (if l = r then 1 else if l = s then t else 0) else if l = i then 1 else 0).congr fun i j hi hj => ?_
  by_cases e : i = r
  · subst e
    rw [if_pos rfl, sI_two (p := i) (q := s) _ hr hs hne (fun l _ h1 h2 => by rw [if_pos rfl, if_neg h1, if_neg h2, Int.zero_mul]), if_pos rfl, if_pos rfl, if_pos rfl, if_neg (Ne.symm hne), if_pos rfl, Int.one_mul]
  · rw [if_neg e, sI_one (k := i) _ hi (fun l _ h1 => by rw [if_neg e, if_neg h1, Int.zero_mul]), if_neg e, if_pos rfl, Int.one_mul]
theorem Dv.rneg (h : Dv n c k A g) {r : Nat} : Dv n c k (fun i j => if i = r then -A i j else A i j) g := by
  refine (h.rows (m := n) fun i l => if l = i then (if i = r then -1 else 1) else 0).congr fun i j hi hj => ?_
  rw [sI_one (k := i) _ hi (fun l _ h1 => by rw [if_neg h1, Int.zero_mul]), if_pos rfl]
  by_cases e : i = r
  · rw [if_pos e, if_pos e]; omega
  · rw [if_neg e, if_neg e]; omega
theorem Dv.eqv (hE : Eqv n c A B) (h : Dv n c k A g) : Dv n c k B g := by
  induction hE with
  | refl => exact h
  | cong _ hc ih => exact ih.congr hc
  | radd r s t h1 h2 h3 _ ih => exact ih.radd t h1 h2 h3
  | cadd r s t h1 h2 h3 _ ih => exact (ih.tr.radd t h1 h2 h3).tr
  | rsw r s h1 h2 h3 _ ih => exact fun is js his hjs => ih (fun a => swn r s (is a)) js (fun a ha => swn_lt h1 h2 (his a ha)) hjs
  | csw r s h1 h2 h3 _ ih => exact fun is js his hjs => ih is (fun b => swn r s (js b)) his fun b hb => swn_lt h1 h2 (hjs b hb)
  | rneg r h1 _ ih => exact ih.rneg
  | cneg r h1 _ ih => exact ih.tr.rneg.tr
end

/-! ### the minors of a diagonal -/
theorem det_cmuls {k : Nat} (A : Mx) (t : Nat → Int) : ∀ m, m ≤ k → det k (fun a b => if b < m then t b * A a b else A a b) = pI m t * det k A
  | 0, _ => by
    rw [det_congr (B := A) fun a b _ _ => by rw [if_neg (by omega)]]
    exact (Int.one_mul _).symm
  | m + 1, hm => by
    rw [det_cmul (A := fun a b => if b < m then t b * A a b else A a b) (c := m) (t := t m) (by omega) (fun i j _ _ hne => ?_) (fun i _ => ?_), det_cmuls A t m (by omega)]
    · show t m * (pI m t * det k A) = pI m t * t m * det k A
      rw [← Int.mul_assoc, Int.mul_comm (t m)]
    · by_cases e : j < m
      · rw [if_pos (by omega), if_pos e]
      · rw [if_neg (by omega), if_neg e]
    · rw [if_pos (by omega), if_neg (by omega)]
theorem pI_put (f : Nat → Int) (y : Int) : ∀ {k b : Nat}, b < k → pI k (fun i => if i = b then y else f i) * f b = pI k f * y
  | k + 1, b, hb => by
    show pI k _ * (if k = b then y else f k) * f b = pI k f * f k * y
    by_cases e : k = b
    · subst e
      rw [if_pos rfl, pI_congr (g := f) fun i hi => if_neg (by omega), Int.mul_assoc, Int.mul_assoc, Int.mul_comm y]
    · rw [if_neg e, Int.mul_assoc, Int.mul_comm (f k), ← Int.mul_assoc, pI_put f y (by omega), Int.mul_assoc, Int.mul_assoc, Int.mul_comm y]
theorem pI_swap (f : Nat → Int) {k b : Nat} (hb : b ≤ k) : pI (k + 1) (fun i => f (swn b k i)) = pI (k + 1) f := by
  by_cases e : b = k
  · subst e
    exact pI_congr fun i _ => by congr 1; unfold swn; split <;> omega
  · show pI k _ * f (swn b k k) = pI k f * f k
    rw [swn_r, pI_congr (g := fun i => if i = b then f k else f i) fun i hi => by
      by_cases h : i = b
      · subst h; rw [swn_l, if_pos rfl]
      · rw [swn_o h (by omega), if_neg h]]
    exact pI_put f (f k) (by omega)
theorem chain_dvd {d : Nat → Nat} {m : Nat} (h : Chain d m) {i j : Nat} (hij : i ≤ j) (hj : j < m) : d i ∣ d j := by
  induction j with
  | zero => rw [show i = 0 by omega]; exact Nat.dvd_refl _
  | succ j ih =>
    by_cases e : i = j + 1
    · rw [e]; exact Nat.dvd_refl _
    · exact Nat.dvd_trans (ih (by omega) (by omega)) (h j hj)
theorem pigeon {k : Nat} {js : Nat → Nat} (hi : ∀ a b, a < k + 1 → b < k + 1 → js a = js b → a = b) : ∃ b, b < k + 1 ∧ k ≤ js b := by
  apply Classical.byContradiction
  intro hno
  have hnd : ((List.range (k + 1)).map js).Nodup := by
    rw [List.Nodup, List.pairwise_map]
    refine (List.pairwise_lt_range (n := k + 1)).imp_of_mem ?_
    intro a b ha hb hab e
    rw [List.mem_range] at ha hb
    have := hi a b ha hb e
    omega
  have hsub : (List.range (k + 1)).map js ⊆ List.range k := by
    intro x hx
    rw [List.mem_map] at hx
    obtain ⟨b, hb, rfl⟩ := hx
    rw [List.mem_range] at hb ⊢
    rcases Nat.lt_or_ge (js b) k with h | h
    · exact h
    · exact absurd ⟨b, hb, h⟩ hno
  have := hnd.length_le_of_subset hsub
  simp at this
  omega
theorem chain_prod {d : Nat → Nat} {m : Nat} (h : Chain d m) : ∀ (k : Nat) (js : Nat → Nat), (∀ a b, a < k → b < k → js a = js b → a = b) → (∀ b, b < k → js b < m) → pI k (fun i => (d i : Int)) ∣ pI k fun b => (d (js b) : Int)
  | 0, _, _, _ => Int.dvd_refl _
  | k + 1, js, hi, hl => by
    obtain ⟨b, hb, hbk⟩ := pigeon hi
    rw [← pI_swap (fun b => (d (js b) : Int)) (b := b) (by omega)]
    show pI k _ * _ ∣ pI k (fun i => (d (js (swn b k i)) : Int)) * (d (js (swn b k k)) : Int)
    rw [swn_r]
    refine Int.mul_dvd_mul (chain_prod h k (fun i => js (swn b k i)) (fun x y hx hy e => ?_) (fun x hx => hl _ (swn_lt hb (by omega) (by omega)))) (Int.natCast_dvd_natCast.2 (chain_dvd h hbk (hl b hb)))
    have := hi _ _ (swn_lt hb (by omega) (by omega)) (swn_lt hb (by omega) (by omega)) e
    rw [← swn_swn b k x, this, swn_swn]
section
variable {n c : Nat} {d : Nat → Nat} (hd : Chain d (min n c)) {k : Nat}
include hd
theorem dv_diag : Dv n c k (dgM d) (pI k fun i => (d i : Int)) := by
  intro is js his hjs
  by_cases hinj : ∀ a b, a < k → b < k → js a = js b → a = b
  · by_cases hn : ∀ b, b < k → js b < n
    · have e := det_cmuls (k := k) (fun a b => if is a = js b then 1 else 0) (fun b => (d (js b) : Int)) k (Nat.le_refl _)
      rw [det_congr (B := fun a b => dgM d (is a) (js b)) fun a b _ hb => by
        rw [if_pos hb]
        unfold dgM
        by_cases h : is a = js b
        · rw [if_pos h, if_pos h, h, Int.mul_one]
        · rw [if_neg h, if_neg h, Int.mul_zero]] at e
      rw [e]
      exact Int.dvd_trans (chain_prod hd k js hinj fun b hb => by have := hn b hb; have := hjs b hb; omega) (Int.dvd_mul_right ..)
    · have : ∃ b, b < k ∧ n ≤ js b := by
        apply Classical.byContradiction
        intro hno
        exact hn fun b hb => by
          rcases Nat.lt_or_ge (js b) n with h | h
          · exact h
          · exact absurd ⟨b, hb, h⟩ hno
      obtain ⟨b, hb, hbn⟩ := this
      rw [det_c0 hb fun a ha => by unfold dgM; exact if_neg (by have := his a ha; omega)]
      exact Int.dvd_zero _
  · have : ∃ a b, a < k ∧ b < k ∧ a ≠ b ∧ js a = js b := by
      apply Classical.byContradiction
      intro hno
      exact hinj fun a b ha hb e => by
        apply Classical.byContradiction
        exact fun hne => hno ⟨a, b, ha, hb, hne, e⟩
    obtain ⟨a, b, ha, hb, hne, e⟩ := this
    rw [det_cols ha hb hne fun i _ => by rw [e]]
    exact Int.dvd_zero _
omit hd in
theorem dv_lead {g : Int} (hk : k ≤ min n c) (h : Dv n c k (dgM d) g) : g ∣ pI k fun i => (d i : Int) := by
  have := h id id (fun a ha => by show a < n; omega) (fun a ha => by show a < c; omega)
  rwa [det_upper fun i j _ hj => by show dgM d i j = 0; unfold dgM; exact if_neg (by omega), pI_congr (g := fun i => (d i : Int)) fun i _ => by show dgM d i i = _; unfold dgM; exact if_pos rfl] at this
end
theorem pI_nonneg {f : Nat → Nat} : ∀ k, 0 ≤ pI k fun i => (f i : Int)
  | 0 => by show (0 : Int) ≤ 1; decide
  | k + 1 => Int.mul_nonneg (pI_nonneg k) (by show (0 : Int) ≤ (f k : Int); omega)
theorem dvd_anti {a b : Int} (ha : 0 ≤ a) (hb : 0 ≤ b) (h1 : a ∣ b) (h2 : b ∣ a) : a = b := by
  have e1 := Int.natAbs_dvd_natAbs.2 h1
  have e2 := Int.natAbs_dvd_natAbs.2 h2
  have := Nat.dvd_antisymm e1 e2
  omega
theorem pI_zero {f : Nat → Int} : ∀ {k : Nat}, pI k f = 0 → ∃ i, i < k ∧ f i = 0
  | 0, h => by cases h
  | k + 1, h => by
    rcases Int.mul_eq_zero.1 h with h | h
    · obtain ⟨i, hi, e⟩ := pI_zero h
      exact ⟨i, by omega, e⟩
    · exact ⟨k, by omega, h⟩
/-- THE DIAGONAL FORM IS ONE ALONE -/
theorem smith_uniq {n c : Nat} {d d' : Nat → Nat} (hd : Chain d (min n c)) (hd' : Chain d' (min n c)) (h : Eqv n c (dgM d) (dgM d')) : ∀ i, i < min n c → d i = d' i := by
  have hp : ∀ k, k ≤ min n c → (pI k fun i => (d i : Int)) = pI k fun i => (d' i : Int) := fun k hk =>
    dvd_anti (pI_nonneg k) (pI_nonneg k) (dv_lead hk ((dv_diag hd).eqv h)) (dv_lead hk ((dv_diag hd').eqv h.symm))
  intro i hi
  have h0 := hp i (by omega)
  have h1 : (pI i fun i => (d i : Int)) * (d i : Int) = (pI i fun i => (d' i : Int)) * (d' i : Int) := hp (i + 1) (by omega)
  by_cases hz : (pI i fun i => (d i : Int)) = 0
  · have z : ∀ {d : Nat → Nat}, Chain d (min n c) → (pI i fun i => (d i : Int)) = 0 → d i = 0 := by
      intro d hd hz
      obtain ⟨j, hj, e⟩ := pI_zero hz
      have := chain_dvd hd (show j ≤ i by omega) hi
      rw [show d j = 0 by omega] at this
      exact Nat.zero_dvd.1 this
    rw [z hd hz, z hd' (by rw [← h0]; exact hz)]
  · rw [← h0] at h1
    have := Int.eq_of_mul_eq_mul_left hz h1
    omega
end Go.Proofs.Yteanhbldhaiekaa
