/-
  Matrices of residues under steps on rows and columns; the steps of isolate. No program here.
  Isolation in plain Lean: what the loops of isolate keep. No program here.
-/
import Derived.Test.YteanhbldhaiekaaZ12
namespace Go.Proofs.Yteanhbldhaiekaa

/-- a is, modulo M, a matrix that m turns into -/
structure Sm (n c M : Nat) (m : Mx) (a : Nat → Nat → Nat) : Prop where
  eq : ∃ B, Eqv n c m B ∧ ∀ i j, i < n → j < c → (M : Int) ∣ nM a i j - B i j
  lt : ∀ i j, i < n → j < c → a i j < M
/-- rows and columns before k hold but the diagonal -/
def Dg (n c k : Nat) (a : Nat → Nat → Nat) : Prop := ∀ i j, i < n → j < c → (i < k ∨ j < k) → i ≠ j → a i j = 0
section
variable {n c M k : Nat} {m : Mx} {a b : Nat → Nat → Nat}
theorem Sm.congr (h : Sm n c M m a) (hb : ∀ i j, i < n → j < c → b i j = a i j) : Sm n c M m b := by
  obtain ⟨⟨B, h1, h2⟩, h3⟩ := h
  refine ⟨⟨B, h1, fun i j hi hj => ?_⟩, fun i j hi hj => by rw [hb i j hi hj]; exact h3 i j hi hj⟩
  have := h2 i j hi hj
  unfold nM at this ⊢
  rwa [hb i j hi hj]
theorem Dg.congr (h : Dg n c k a) (hb : ∀ i j, i < n → j < c → b i j = a i j) : Dg n c k b := fun i j hi hj ho hne => by rw [hb i j hi hj]; exact h i j hi hj ho hne
theorem Sm.rsw (h : Sm n c M m a) {i r : Nat} (hi : i < n) (hr : r < n) (hne : i ≠ r) : Sm n c M m (fun x y => a (xg i r x) y) := by
  obtain ⟨⟨B, h1, h2⟩, h3⟩ := h
  exact ⟨⟨_, .rsw i r hi hr hne h1, fun x y hx hy => h2 _ y (swn_lt hi hr hx) hy⟩, fun x y hx hy => h3 _ y (swn_lt hi hr hx) hy⟩
theorem Sm.csw (h : Sm n c M m a) {i r : Nat} (hi : i < c) (hr : r < c) (hne : i ≠ r) : Sm n c M m (fun x y => a x (xg i r y)) := by
  obtain ⟨⟨B, h1, h2⟩, h3⟩ := h
  exact ⟨⟨_, .csw i r hi hr hne h1, fun x y hx hy => h2 x _ hx (swn_lt hi hr hy)⟩, fun x y hx hy => h3 x _ hx (swn_lt hi hr hy)⟩
theorem sub_mod {M p q : Nat} {x y t : Int} (hp : p < M) (hx : (M : Int) ∣ (p : Int) - x) (hy : (M : Int) ∣ (q : Int) - y) (hM : 0 < M) (t' : Nat) (ht : t = -(t' : Int)) : (M : Int) ∣ (subN p (t' * q % M) M : Int) - (x + t * y) := by
  subst ht
  have e1 := subN_eq hp (Nat.mod_lt (t' * q) hM)
  have e2 := dvd_mod M (t' * q)
  have e3 := Int.dvd_mul_of_dvd_right (b := (t' : Int)) hy
  rw [Int.mul_sub] at e3
  rw [Int.natCast_mul] at e2
  rw [Int.neg_mul]
  generalize ((t' * q % M : Nat) : Int) = u at e1 e2
  generalize (t' : Int) * (q : Int) = v at e2 e3
  generalize (t' : Int) * y = s at e3 ⊢
  generalize ((subN p (t' * q % M) M : Nat) : Int) = d at e1 ⊢
  have := Int.dvd_sub (Int.dvd_sub (Int.dvd_sub hx e1) e3) (Int.dvd_neg.2 e2)
  have e4 := Int.dvd_sub (Int.dvd_add (Int.dvd_sub hx e1) e2) e3
  rw [show (p : Int) - x - ((p : Int) - u - d) + (v - u) - (v - s) = d - (x + -s) by omega] at e4
  exact e4
theorem Sm.radd (h : Sm n c M m a) {i r : Nat} (hi : i < n) (hr : r < n) (hne : i ≠ r) (t : Nat) : Sm n c M m (fun x y => if x = i then subN (a x y) (t * a r y % M) M else a x y) := by
  obtain ⟨⟨B, h1, h2⟩, h3⟩ := h
  refine ⟨⟨_, .radd i r (-(t : Int)) hi hr hne h1, fun x y hx hy => ?_⟩, fun x y hx hy => ?_⟩
  · have hM : 0 < M := Nat.lt_of_le_of_lt (Nat.zero_le _) (h3 x y hx hy)
    have e1 := h2 x y hx hy
    have e2 := h2 r y hr hy
    unfold nM at e1 e2 ⊢
    dsimp only
    by_cases e : x = i
    · rw [if_pos e, if_pos e]
      exact sub_mod (h3 x y hx hy) e1 e2 hM t rfl
    · rw [if_neg e, if_neg e]; exact e1
  · have hM : 0 < M := Nat.lt_of_le_of_lt (Nat.zero_le _) (h3 x y hx hy)
    show (if x = i then _ else _) < M
    split
    · exact subN_lt (h3 x y hx hy) (Nat.mod_lt _ hM)
    · exact h3 x y hx hy
theorem Sm.cadd (h : Sm n c M m a) {i r : Nat} (hi : i < c) (hr : r < c) (hne : i ≠ r) (t : Nat) : Sm n c M m (fun x y => if y = i then subN (a x y) (t * a x r % M) M else a x y) := by
  obtain ⟨⟨B, h1, h2⟩, h3⟩ := h
  refine ⟨⟨_, .cadd i r (-(t : Int)) hi hr hne h1, fun x y hx hy => ?_⟩, fun x y hx hy => ?_⟩
  · have hM : 0 < M := Nat.lt_of_le_of_lt (Nat.zero_le _) (h3 x y hx hy)
    have e1 := h2 x y hx hy
    have e2 := h2 x r hx hr
    unfold nM at e1 e2 ⊢
    dsimp only
    by_cases e : y = i
    · rw [if_pos e, if_pos e]
      exact sub_mod (h3 x y hx hy) e1 e2 hM t rfl
    · rw [if_neg e, if_neg e]; exact e1
  · have hM : 0 < M := Nat.lt_of_le_of_lt (Nat.zero_le _) (h3 x y hx hy)
    show (if y = i then _ else _) < M
    split
    · exact subN_lt (h3 x y hx hy) (Nat.mod_lt _ hM)
    · exact h3 x y hx hy
theorem xg_k (i k : Nat) : xg i k k = i := by unfold xg; split <;> simp_all
theorem xg_i (i k : Nat) : xg i k i = k := by unfold xg; rw [if_pos rfl]
theorem xg_o {i k x : Nat} (h1 : x ≠ i) (h2 : x ≠ k) : xg i k x = x := by unfold xg; rw [if_neg h1, if_neg h2]
theorem xg_ge {i k x : Nat} (hi : k ≤ i) (hx : k ≤ x) : k ≤ xg i k x := by unfold xg; split <;> (try split) <;> omega
/-- the step on rows: the exchange, the subtraction -/
def rsA (k i : Nat) (a : Nat → Nat → Nat) (x y : Nat) : Nat := if a i k % a k k = 0 then a x y else a (xg i k x) y
def rsB (M k i t : Nat) (a : Nat → Nat → Nat) (x y : Nat) : Nat := if x = i ∧ k ≤ y then subN (a i y) (t * a k y % M) M else a x y
def rsN (M k i : Nat) (a : Nat → Nat → Nat) : Nat → Nat → Nat := rsB M k i (rsA k i a i k / rsA k i a k k) (rsA k i a)
def csA (k j : Nat) (a : Nat → Nat → Nat) (x y : Nat) : Nat := if a k j % a k k = 0 then a x y else if k ≤ x then a x (xg j k y) else a x y
def csB (M k j t : Nat) (a : Nat → Nat → Nat) (x y : Nat) : Nat := if k ≤ x ∧ y = j then subN (a x j) (t * a x k % M) M else a x y
def csN (M k j : Nat) (a : Nat → Nat → Nat) : Nat → Nat → Nat := csB M k j (csA k j a k j / csA k j a k k) (csA k j a)
theorem subN_zero {p q M : Nat} (h : q = 0) : subN p (q % M) M = p := by subst h; rw [Nat.zero_mod]; unfold subN; rw [if_neg (by omega)]; rfl
theorem Dg.rsw (h : Dg n c k a) {i : Nat} (hi : i < n) (hki : k < i) : Dg n c k (fun x y => a (xg i k x) y) := fun x y hx hy ho hne => by
  show a (xg i k x) y = 0
  have hk : k < n := by omega
  by_cases e1 : x = i
  · subst e1; rw [xg_i]; exact h k y hk hy (by omega) (by omega)
  · by_cases e2 : x = k
    · subst e2; rw [xg_k]; exact h i y hi hy (by omega) (by omega)
    · rw [xg_o e1 e2]; exact h x y hx hy ho hne
theorem rsA_ok (h : Sm n c M m a) (hd : Dg n c k a) {i : Nat} (hi : i < n) (hki : k < i) : Sm n c M m (rsA k i a) ∧ Dg n c k (rsA k i a) := by
  unfold rsA
  by_cases e : a i k % a k k = 0
  · exact ⟨h.congr fun x y _ _ => if_pos e, hd.congr fun x y _ _ => if_pos e⟩
  · exact ⟨(h.rsw hi (show k < n by omega) (by omega)).congr fun x y _ _ => if_neg e, (hd.rsw hi hki).congr fun x y _ _ => if_neg e⟩
theorem rsB_ok (h : Sm n c M m a) (hd : Dg n c k a) {i : Nat} (hi : i < n) (hki : k < i) (t : Nat) : Sm n c M m (rsB M k i t a) ∧ Dg n c k (rsB M k i t a) := by
  refine ⟨(h.radd hi (show k < n by omega) (show i ≠ k by omega) t).congr fun x y hx hy => ?_, fun x y hx hy ho hne => ?_⟩
  · unfold rsB
    by_cases e : x = i
    · subst e
      rw [if_pos rfl]
      by_cases e2 : k ≤ y
      · rw [if_pos ⟨rfl, e2⟩]
      · rw [if_neg (fun h => e2 h.2), subN_zero]
        rw [hd k y (by omega) hy (by omega) (by omega), Nat.mul_zero]
    · rw [if_neg (fun h => e h.1), if_neg e]
  · unfold rsB
    by_cases e : x = i ∧ k ≤ y
    · omega
    · rw [if_neg e]; exact hd x y hx hy ho hne
theorem rsN_ok (h : Sm n c M m a) (hd : Dg n c k a) {i : Nat} (hi : i < n) (hki : k < i) : Sm n c M m (rsN M k i a) ∧ Dg n c k (rsN M k i a) := by
  obtain ⟨h1, h2⟩ := rsA_ok h hd hi hki
  exact rsB_ok h1 h2 hi hki _
/-- what a step on rows does in the column k -/
theorem rsN_col {i : Nat} (hlt : a i k < M) (hlk : a k k < M) (hki : k < i) (h0 : a k k ≠ 0) (h1 : a i k ≠ 0) :
    rsN M k i a i k < a i k ∧ rsN M k i a k k ≠ 0 ∧ Nat.gcd (rsN M k i a k k) (rsN M k i a i k) = Nat.gcd (a k k) (a i k) ∧ (∀ x, x ≠ i → x ≠ k → rsN M k i a x k = a x k) := by
  have hne : k ≠ i := by omega
  have sub : ∀ {p q : Nat}, p < M → q ≠ 0 → subN p (p / q * q % M) M = p % q := fun {p q} hp hq => by
    have e := Nat.div_add_mod p q
    have e2 : p / q * q ≤ p := Nat.div_mul_le_self p q
    rw [Nat.mul_comm] at e
    rw [Nat.mod_eq_of_lt (by omega)]
    unfold subN
    rw [if_neg (by omega)]
    omega
  unfold rsN rsB
  by_cases e : a i k % a k k = 0
  · have hA : rsA k i a = a := by funext x y; unfold rsA; rw [if_pos e]
    rw [hA, if_pos ⟨rfl, Nat.le_refl _⟩, if_neg (fun h => hne h.1), sub hlt h0, e]
    exact ⟨Nat.pos_of_ne_zero h1, h0, by rw [Nat.gcd_zero_right, Nat.gcd_eq_left (Nat.dvd_of_mod_eq_zero e)], fun x hx _ => if_neg fun h => hx h.1⟩
  · have hA : rsA k i a = fun x y => a (xg i k x) y := by funext x y; unfold rsA; rw [if_neg e]
    rw [hA]
    dsimp only
    rw [if_pos ⟨rfl, Nat.le_refl _⟩, if_neg (fun h => hne h.1), xg_i, xg_k, sub hlk h1]
    exact ⟨Nat.mod_lt _ (Nat.pos_of_ne_zero h1), h1, by rw [Nat.gcd_comm (a i k), ← Nat.gcd_rec, Nat.gcd_comm], fun x hx hx2 => by rw [if_neg fun h => hx h.1, xg_o hx hx2]⟩
theorem Sm.tr (h : Sm n c M m a) : Sm c n M (fun i j => m j i) (fun i j => a j i) := by
  obtain ⟨⟨B, h1, h2⟩, h3⟩ := h
  exact ⟨⟨_, h1.tr, fun i j hi hj => h2 j i hj hi⟩, fun i j hi hj => h3 j i hj hi⟩
theorem Dg.tr (h : Dg n c k a) : Dg c n k (fun i j => a j i) := fun i j hi hj ho hne => h j i hj hi (by omega) (fun e => hne e.symm)
theorem csA_tr (hd : Dg n c k a) {j : Nat} (hj : j < c) (hkj : k < j) {x y : Nat} (hx : x < n) (hy : y < c) : csA k j a x y = rsA k j (fun p q => a q p) y x := by
  unfold csA rsA
  split
  · rfl
  · by_cases e : k ≤ x
    · rw [if_pos e]
    · rw [if_neg e]
      show a x y = a x (xg j k y)
      by_cases e1 : y = j
      · subst e1; rw [xg_i, hd x y hx hy (by omega) (by omega), hd x k hx (by omega) (by omega) (by omega)]
      · by_cases e2 : y = k
        · subst e2; rw [xg_k, hd x y hx hy (by omega) (by omega), hd x j hx hj (by omega) (by omega)]
        · rw [xg_o e1 e2]
theorem csN_tr (hd : Dg n c k a) {j : Nat} (hk : k < n) (hj : j < c) (hkj : k < j) {x y : Nat} (hx : x < n) (hy : y < c) : csN M k j a x y = rsN M k j (fun p q => a q p) y x := by
  unfold csN rsN csB rsB
  rw [csA_tr hd hj hkj hk hj, csA_tr hd hj hkj hk (show k < c by omega), csA_tr hd hj hkj hx hj, csA_tr hd hj hkj hx (show k < c by omega), csA_tr hd hj hkj hx hy]
  by_cases e : k ≤ x ∧ y = j
  · rw [if_pos e, if_pos ⟨e.2, e.1⟩]
  · rw [if_neg e, if_neg (fun h => e ⟨h.2, h.1⟩)]
theorem csN_ok (h : Sm n c M m a) (hd : Dg n c k a) {j : Nat} (hk : k < n) (hj : j < c) (hkj : k < j) : Sm n c M m (csN M k j a) ∧ Dg n c k (csN M k j a) := by
  obtain ⟨h1, h2⟩ := rsN_ok h.tr hd.tr hj hkj
  exact ⟨h1.tr.congr fun x y hx hy => csN_tr hd hk hj hkj hx hy, h2.tr.congr fun x y hx hy => csN_tr hd hk hj hkj hx hy⟩
theorem csN_row {j : Nat} (hd : Dg n c k a) (hl : ∀ x y, x < n → y < c → a x y < M) (hk : k < n) (hj : j < c) (hkj : k < j) (h0 : a k k ≠ 0) (h1 : a k j ≠ 0) :
    csN M k j a k j < a k j ∧ csN M k j a k k ≠ 0 ∧ Nat.gcd (csN M k j a k k) (csN M k j a k j) = Nat.gcd (a k k) (a k j) ∧ (∀ y, y < c → y ≠ j → y ≠ k → csN M k j a k y = a k y) := by
  have := rsN_col (M := M) (k := k) (a := fun p q => a q p) (i := j) (hl k j hk hj) (hl k k hk (by omega)) hkj h0 h1
  rw [csN_tr hd hk hj hkj hk hj, csN_tr hd hk hj hkj hk (show k < c by omega)]
  exact ⟨this.1, this.2.1, this.2.2.1, fun y hy hy1 hy2 => by rw [csN_tr hd hk hj hkj hk hy]; exact this.2.2.2 y hy1 hy2⟩
/-- a step on columns whose number is divided touches no other column -/
theorem csN_same {j : Nat} (e : a k j % a k k = 0) (hkj : k < j) (x : Nat) : csN M k j a x k = a x k := by
  have hA : csA k j a = a := by funext x y; unfold csA; rw [if_pos e]
  unfold csN csB
  rw [hA, if_neg (by omega)]
end
end Go.Proofs.Yteanhbldhaiekaa
namespace Go.Proofs.Yteanhbldhaiekaa
open Classical

def C0 (n k : Nat) (a : Nat → Nat → Nat) : Prop := ∀ x, k < x → x < n → a x k = 0
def R0 (c k : Nat) (a : Nat → Nat → Nat) : Prop := ∀ y, k < y → y < c → a k y = 0
/-- what every step keeps -/
structure Iso (n c M k : Nat) (m : Mx) (a : Nat → Nat → Nat) : Prop where
  sm : Sm n c M m a
  dg : Dg n c k a
  pv : a k k ≠ 0
noncomputable def mu (n c k : Nat) (a : Nat → Nat → Nat) : Nat := 2 * a k k + if C0 n k a ∧ R0 c k a then 0 else 1
/-- since the round's start: nothing has changed, or the start was not clean -/
def Unc (n c k : Nat) (a0 a : Nat → Nat → Nat) : Prop := a = a0 ∨ ¬ (C0 n k a0 ∧ R0 c k a0)
/-- the rows before i have been cleared -/
structure RPh (n c M k : Nat) (m : Mx) (a0 : Nat → Nat → Nat) (i : Nat) (a : Nat → Nat → Nat) : Prop where
  iso : Iso n c M k m a
  un : Unc n c k a0 a
  lo : ∀ x, k < x → x < i → a x k = 0
  le : a k k ≤ a0 k k
/-- within the row i -/
structure RIn (n c M k : Nat) (m : Mx) (a0 : Nat → Nat → Nat) (i v : Nat) (a : Nat → Nat → Nat) : Prop where
  iso : Iso n c M k m a
  un : Unc n c k a0 a
  lo : ∀ x, k < x → x < i → a x k = 0
  le : Nat.gcd (a k k) (a i k) ≤ a0 k k
  ev : a i k = v
section
variable {n c M k i j v : Nat} {m : Mx} {a0 a : Nat → Nat → Nat}
theorem RPh.start (h : Iso n c M k m a) : RPh n c M k m a (k + 1) a := ⟨h, .inl rfl, fun x _ _ => by omega, Nat.le_refl _⟩
theorem RPh.enter (h : RPh n c M k m a0 i a) : RIn n c M k m a0 i (a i k) a :=
  ⟨h.iso, h.un, h.lo, Nat.le_trans (Nat.le_of_dvd (Nat.pos_of_ne_zero h.iso.pv) (Nat.gcd_dvd_left ..)) h.le, rfl⟩
theorem RIn.step (h : RIn n c M k m a0 i v a) (hki : k < i) (hi : i < n) (hk : k < c) (hv : v ≠ 0) : rsN M k i a i k < v ∧ RIn n c M k m a0 i (rsN M k i a i k) (rsN M k i a) := by
  have hik : a i k ≠ 0 := by rw [h.ev]; exact hv
  obtain ⟨h1, h2, h3, h4⟩ := rsN_col (h.iso.sm.lt i k hi hk) (h.iso.sm.lt k k (by omega) hk) hki h.iso.pv hik
  obtain ⟨s1, s2⟩ := rsN_ok h.iso.sm h.iso.dg hi hki
  refine ⟨by rw [← h.ev]; exact h1, ⟨s1, s2, h2⟩, .inr ?_, fun x hx hxi => ?_, by rw [h3]; exact h.le, rfl⟩
  · rcases h.un with e | e
    · subst e; exact fun hc => hik (hc.1 i hki hi)
    · exact e
  · rw [h4 x (by omega) (by omega)]; exact h.lo x hx hxi
theorem RIn.leave (h : RIn n c M k m a0 i 0 a) : RPh n c M k m a0 (i + 1) a := by
  have e := h.le
  rw [h.ev, Nat.gcd_zero_right] at e
  refine ⟨h.iso, h.un, fun x hx hxi => ?_, e⟩
  by_cases hxe : x = i
  · rw [hxe]; exact h.ev
  · exact h.lo x hx (by omega)
/-- the columns before j have been cleared; f tells whether a step was made -/
structure CPh (n c M k : Nat) (m : Mx) (a0 : Nat → Nat → Nat) (j : Nat) (f : Bool) (a : Nat → Nat → Nat) : Prop where
  iso : Iso n c M k m a
  un : Unc n c k a0 a
  lo : ∀ y, k < y → y < j → a k y = 0
  q : a k k < a0 k k ∨ (a k k ≤ a0 k k ∧ C0 n k a)
  f0 : f = false → C0 n k a
  f1 : f = true → ¬ (C0 n k a0 ∧ R0 c k a0)
structure CIn (n c M k : Nat) (m : Mx) (a0 : Nat → Nat → Nat) (j v : Nat) (f : Bool) (a : Nat → Nat → Nat) : Prop where
  iso : Iso n c M k m a
  un : Unc n c k a0 a
  lo : ∀ y, k < y → y < j → a k y = 0
  q : Nat.gcd (a k k) (a k j) < a0 k k ∨ (a k k ≤ a0 k k ∧ C0 n k a)
  f0 : f = false → C0 n k a
  f1 : f = true → ¬ (C0 n k a0 ∧ R0 c k a0)
  ev : a k j = v
theorem RPh.turn (h : RPh n c M k m a0 n a) : CPh n c M k m a0 (k + 1) false a :=
  ⟨h.iso, h.un, fun y _ _ => by omega, .inr ⟨h.le, h.lo⟩, fun _ => h.lo, (fun e => by cases e)⟩
theorem CPh.enter {f : Bool} (h : CPh n c M k m a0 j f a) : CIn n c M k m a0 j (a k j) f a := by
  refine ⟨h.iso, h.un, h.lo, ?_, h.f0, h.f1, rfl⟩
  rcases h.q with e | e
  · exact .inl (Nat.lt_of_le_of_lt (Nat.le_of_dvd (Nat.pos_of_ne_zero h.iso.pv) (Nat.gcd_dvd_left ..)) e)
  · exact .inr e
theorem CIn.step {f : Bool} (h : CIn n c M k m a0 j v f a) (hkj : k < j) (hj : j < c) (hk : k < n) (hv : v ≠ 0) : csN M k j a k j < v ∧ CIn n c M k m a0 j (csN M k j a k j) true (csN M k j a) := by
  have hkj0 : a k j ≠ 0 := by rw [h.ev]; exact hv
  obtain ⟨h1, h2, h3, h4⟩ := csN_row h.iso.dg h.iso.sm.lt hk hj hkj h.iso.pv hkj0
  obtain ⟨s1, s2⟩ := csN_ok h.iso.sm h.iso.dg hk hj hkj
  have hn0 : ¬ (C0 n k a0 ∧ R0 c k a0) := by
    rcases h.un with e | e
    · subst e; exact fun hc => hkj0 (hc.2 j hkj hj)
    · exact e
  refine ⟨by rw [← h.ev]; exact h1, ⟨s1, s2, h2⟩, .inr hn0, fun y hy hyj => ?_, ?_, (fun e => by cases e), fun _ => hn0, rfl⟩
  · rw [h4 y (by omega) (by omega) (by omega)]; exact h.lo y hy hyj
  · rw [h3]
    rcases h.q with e | e
    · exact .inl e
    · by_cases hd : a k j % a k k = 0
      · refine .inr ⟨by rw [csN_same hd hkj]; exact e.1, fun x hx hxn => by rw [csN_same hd hkj]; exact e.2 x hx hxn⟩
      · refine .inl (Nat.lt_of_lt_of_le (Nat.lt_of_le_of_ne (Nat.le_of_dvd (Nat.pos_of_ne_zero h.iso.pv) (Nat.gcd_dvd_left ..)) fun e2 => hd ?_) e.1)
        exact Nat.mod_eq_zero_of_dvd (e2 ▸ Nat.gcd_dvd_right (a k k) (a k j))
theorem CIn.leave {f : Bool} (h : CIn n c M k m a0 j 0 f a) : CPh n c M k m a0 (j + 1) f a := by
  refine ⟨h.iso, h.un, fun y hy hyj => ?_, ?_, h.f0, h.f1⟩
  · by_cases e : y = j
    · rw [e]; exact h.ev
    · exact h.lo y hy (by omega)
  · rcases h.q with e | e
    · rw [h.ev, Nat.gcd_zero_right] at e; exact .inl e
    · exact .inr e
theorem CPh.finish {f : Bool} (h : CPh n c M k m a0 c f a) : (f = false → C0 n k a ∧ R0 c k a) ∧ (f = true → mu n c k a < mu n c k a0) := by
  refine ⟨fun e => ⟨h.f0 e, h.lo⟩, fun e => ?_⟩
  unfold mu
  rw [if_neg (h.f1 e)]
  rcases h.q with q | ⟨q1, q2⟩
  · split <;> omega
  · rw [if_pos ⟨q2, h.lo⟩]; omega
theorem Iso.done (h : Iso n c M k m a) (hc : C0 n k a ∧ R0 c k a) : Dg n c (k + 1) a := fun x y hx hy ho hne => by
  by_cases e : x < k ∨ y < k
  · exact h.dg x y hx hy e hne
  · by_cases e2 : x = k
    · subst e2; exact hc.2 y (by omega) hy
    · obtain rfl : y = k := by omega
      exact hc.1 x (by omega) hx
end
end Go.Proofs.Yteanhbldhaiekaa
