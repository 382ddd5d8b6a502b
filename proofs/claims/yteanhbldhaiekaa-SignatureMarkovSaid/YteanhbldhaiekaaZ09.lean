/-
  Elimination modulo the prime, in plain Lean: what its states keep, and what the last one says. No program here.
-/
import Derived.Test.YteanhbldhaiekaaZ08
import Derived.Test.YteanhbldhaiekaaZ06
namespace Go.Proofs.Yteanhbldhaiekaa

/-- multiples of one row added to the others -/
theorem det_radds {k r : Nat} {A : Mx} {q : Nat → Int} (hr : r < k) (hq : q r = 0) : ∀ t, t ≤ k → det k (fun x y => if x < t then A x y + q x * A r y else A x y) = det k A
  | 0, _ => det_congr fun i j _ _ => if_neg (by omega)
  | t + 1, ht => by
    refine Eq.trans ?_ (det_radds (A := A) hr hq t (by omega))
    by_cases e : t = r
    · subst e
      refine det_congr fun i j _ _ => ?_
      by_cases h : i = t
      · subst h; rw [if_pos (by omega), if_neg (by omega), hq]; omega
      · by_cases h2 : i < t
        · rw [if_pos h2, if_pos (by omega)]
        · rw [if_neg h2, if_neg (by omega)]
    · refine Eq.trans ?_ (det_radd (A := fun x y => if x < t then A x y + q x * A r y else A x y) (r := t) (s := r) (t := q t) (by omega) hr (fun h => e h))
      refine det_congr fun i j _ _ => ?_
      have hrr : (if r < t then A r j + q r * A r j else A r j) = A r j := by
        split
        · rw [hq]; omega
        · rfl
      by_cases h : i = t
      · subst h; rw [if_pos (by omega), if_pos rfl, if_neg (by omega), hrr]
      · rw [if_neg h]
        by_cases h2 : i < t
        · rw [if_pos h2, if_pos (by omega)]
        · rw [if_neg h2, if_neg (by omega)]
theorem det_raddA {k r : Nat} {A : Mx} {q : Nat → Int} (hr : r < k) (hq : q r = 0) : det k (fun x y => A x y + q x * A r y) = det k A := by
  refine Eq.trans ?_ (det_radds (A := A) hr hq k (Nat.le_refl _))
  exact det_congr fun i j hi _ => by rw [if_pos hi]

/-- numbers as integers -/
def nM (a : Nat → Nat → Nat) : Mx := fun i j => (a i j : Int)
/-- the state of an elimination with r pivots; z is the product of the pivots with the sign of the exchanges -/
structure ElS (n c : Nat) (m : Mx) (r : Nat) (a : Nat → Nat → Nat) (z : Int) (σ τ : Nat → Nat) (s : Int) (B : Mx) : Prop where
  sg : s = 1 ∨ s = -1
  sl : ∀ i, i < n → σ i < n
  tl : ∀ j, j < c → τ j < c
  sd : n = c → det n (fun i j => m (σ i) (τ j)) = s * det n m
  eq : Eqv n c m B
  md : ∀ i j, i < n → j < c → (PM : Int) ∣ nM a i j - B i j
  mn : ∀ k (is js : Nat → Nat), r ≤ k → (∀ x, x < r → is x = x) → (∀ x, r ≤ x → x < k → r ≤ is x ∧ is x < n) → (∀ y, y < k → js y < c) →
    (PM : Int) ∣ det k (fun x y => nM a (is x) (js y)) - det k (fun x y => m (σ (is x)) (τ (js y)))
  lt : ∀ i j, i < n → j < c → a i j < PM
  tri : ∀ i j, i < n → j < r → j < i → a i j = 0
  piv : ∀ i, i < r → a i i ≠ 0
  rn : r ≤ n
  rc : r ≤ c
  zz : z = s * pI r fun i => (a i i : Int)
def El (n c : Nat) (m : Mx) (r : Nat) (a : Nat → Nat → Nat) (z : Int) : Prop := ∃ σ τ s B, ElS n c m r a z σ τ s B

theorem El.start {n c : Nat} {m : Mx} {a : Nat → Nat → Nat} (h : ∀ i j, i < n → j < c → a i j < PM ∧ (PM : Int) ∣ nM a i j - m i j) : El n c m 0 a 1 :=
  ⟨id, id, 1, m, .inl rfl, fun _ h => h, fun _ h => h, fun _ => (Int.one_mul _).symm, .refl _, fun i j hi hj => (h i j hi hj).2,
    fun k is js _ _ his hjs => det_mod fun i j hi hj => (h _ _ (his i (Nat.zero_le _) hi).2 (hjs j hj)).2, fun i j hi hj => (h i j hi hj).1, fun i j _ h => by omega, fun i h => by omega, Nat.zero_le _, Nat.zero_le _, rfl⟩
theorem El.congr {n c r : Nat} {m : Mx} {a b : Nat → Nat → Nat} {z : Int} (h : El n c m r a z) (hb : ∀ i j, i < n → j < c → b i j = a i j) : El n c m r b z := by
  obtain ⟨σ, τ, s, B, h⟩ := h
  refine ⟨σ, τ, s, B, h.sg, h.sl, h.tl, h.sd, h.eq, fun i j hi hj => ?_, fun k is js hk h1 h2 h3 => ?_, fun i j hi hj => ?_, fun i j hi hj hji => ?_, fun i hi => ?_, h.rn, h.rc, ?_⟩
  · have := h.md i j hi hj; unfold nM at this ⊢; rwa [hb i j hi hj]
  · have e := h.mn k is js hk h1 h2 h3
    rwa [det_congr (A := fun x y => nM b (is x) (js y)) (B := fun x y => nM a (is x) (js y))]
    intro x y hx hy
    unfold nM
    rw [hb]
    · by_cases hxr : x < r
      · rw [h1 x hxr]; have := h.rn; omega
      · exact (h2 x (by omega) hx).2
    · exact h3 y hy
  · rw [hb i j hi hj]; exact h.lt i j hi hj
  · rw [hb i j hi (by have := h.rc; omega)]; exact h.tri i j hi hj hji
  · rw [hb i i (by have := h.rn; omega) (by have := h.rc; omega)]; exact h.piv i hi
  · rw [h.zz]
    congr 1
    exact pI_congr fun i hi => by rw [hb i i (by have := h.rn; omega) (by have := h.rc; omega)]
/-- an exchange of rows from r on -/
theorem El.rsw {n c r i : Nat} {m : Mx} {a : Nat → Nat → Nat} {z : Int} (h : El n c m r a z) (hri : r ≤ i) (hi : i < n) (hne : i ≠ r) : El n c m r (fun x y => a (swn i r x) y) (-z) := by
  obtain ⟨σ, τ, s, B, h⟩ := h
  have hr : r < n := by omega
  have fx : ∀ x, x < r → swn i r x = x := fun x hx => swn_o (by omega) (by omega)
  have ge : ∀ x, r ≤ x → r ≤ swn i r x := fun x hx => by unfold swn; split <;> (try split) <;> omega
  refine ⟨fun x => σ (swn i r x), τ, -s, fun x y => B (swn i r x) y, ?_, fun x hx => h.sl _ (swn_lt hi hr hx), h.tl, fun e => ?_, .rsw i r hi hr hne h.eq, fun x y hx hy => h.md _ y (swn_lt hi hr hx) hy, fun k is js hk h1 h2 h3 => ?_,
    fun x y hx hy => h.lt _ y (swn_lt hi hr hx) hy, fun x y hx hy hyx => ?_, fun x hx => ?_, h.rn, h.rc, ?_⟩
  · have := h.sg; omega
  · rw [Int.neg_mul, ← h.sd e]
    exact det_rswap (A := fun x y => m (σ x) (τ y)) hi hr hne
  · exact h.mn k (fun x => swn i r (is x)) js hk (fun x hx => by rw [h1 x hx, fx x hx]) (fun x hx hxk => ⟨ge _ (h2 x hx hxk).1, swn_lt hi hr (h2 x hx hxk).2⟩) h3
  · by_cases hxr : x < r
    · rw [fx x hxr]; exact h.tri x y hx hy hyx
    · exact h.tri _ y (swn_lt hi hr hx) hy (by have := ge x (by omega); omega)
  · rw [fx x hx]; exact h.piv x hx
  · rw [h.zz, Int.neg_mul]
    congr 2
    exact pI_congr fun x hx => by rw [fx x hx]
/-- an exchange of columns from r on -/
theorem El.csw {n c r j : Nat} {m : Mx} {a : Nat → Nat → Nat} {z : Int} (h : El n c m r a z) (hrj : r ≤ j) (hj : j < c) (hne : j ≠ r) : El n c m r (fun x y => a x (swn j r y)) (-z) := by
  obtain ⟨σ, τ, s, B, h⟩ := h
  have hr : r < c := by omega
  have fx : ∀ x, x < r → swn j r x = x := fun x hx => swn_o (by omega) (by omega)
  refine ⟨σ, fun y => τ (swn j r y), -s, fun x y => B x (swn j r y), ?_, h.sl, fun y hy => h.tl _ (swn_lt hj hr hy), fun e => ?_, .csw j r hj hr hne h.eq, fun x y hx hy => h.md x _ hx (swn_lt hj hr hy), fun k is js hk h1 h2 h3 => ?_,
    fun x y hx hy => h.lt x _ hx (swn_lt hj hr hy), fun x y hx hy hyx => ?_, fun x hx => ?_, h.rn, h.rc, ?_⟩
  · have := h.sg; omega
  · rw [Int.neg_mul, ← h.sd e]
    exact det_cswap (A := fun x y => m (σ x) (τ y)) (by omega) (by omega) hne
  · exact h.mn k is (fun y => swn j r (js y)) hk h1 h2 fun y hy => swn_lt hj hr (h3 y hy)
  · rw [fx y hy]; exact h.tri x y hx hy hyx
  · rw [fx x hx]; exact h.piv x hx
  · rw [h.zz, Int.neg_mul]
    congr 2
    exact pI_congr fun x hx => by rw [fx x hx]
/-- one round: multiples of the row r are taken from those behind -/
def elF (r : Nat) (a : Nat → Nat → Nat) (i : Nat) : Nat := a i r * invN (a r r) % PM
def elM (r : Nat) (a : Nat → Nat → Nat) (i j : Nat) : Nat := if r < i ∧ r ≤ j then subN (a i j) (elF r a i * a r j % PM) PM else a i j
theorem dvd_mod (p : Nat) (x : Nat) : (p : Int) ∣ (x : Int) - ((x % p : Nat) : Int) := ⟨(x / p : Nat), by
  have := Nat.div_add_mod x p
  have e : ((p * (x / p) + x % p : Nat) : Int) = (x : Int) := by rw [this]
  rw [Int.natCast_add, Int.natCast_mul] at e
  omega⟩
theorem elM_mod {r n c : Nat} {a : Nat → Nat → Nat} (hl : ∀ i j, i < n → j < c → a i j < PM) (hr : r < n) (htri : ∀ i j, i < n → j < r → j < i → a i j = 0) {i j : Nat} (hi : i < n) (hj : j < c) :
    (PM : Int) ∣ nM (elM r a) i j - (nM a i j + (if r < i then -(elF r a i : Int) else 0) * nM a r j) := by
  unfold nM elM
  by_cases h : r < i
  · rw [if_pos h]
    by_cases h2 : r ≤ j
    · rw [if_pos ⟨h, h2⟩]
      have e1 := subN_eq (hl i j hi hj) (Nat.mod_lt (elF r a i * a r j) (show 0 < PM by decide))
      have e2 := dvd_mod PM (elF r a i * a r j)
      rw [Int.natCast_mul] at e2
      have e3 := Int.dvd_add e1 e2
      have e4 := Int.dvd_neg.2 e1
      have e5 := Int.dvd_sub e4 (Int.dvd_neg.2 e2)
      rw [Int.neg_mul]
      generalize ((elF r a i : Nat) : Int) * ((a r j : Nat) : Int) = u at e5 e3 e2 ⊢
      generalize ((elF r a i * a r j % PM : Nat) : Int) = v at e1 e2 e3 e4 e5
      have := Int.dvd_add e4 e2
      rwa [show -(((a i j : Nat) : Int) - v - ((subN (a i j) (elF r a i * a r j % PM) PM : Nat) : Int)) + (u - v) = ((subN (a i j) (elF r a i * a r j % PM) PM : Nat) : Int) - (((a i j : Nat) : Int) + -u) by omega] at this
    · rw [if_neg (fun e => h2 e.2), htri i j hi (by omega) (by omega), htri r j hr (by omega) (by omega)]
      exact ⟨0, by rw [show ((0 : Nat) : Int) = 0 from rfl]; omega⟩
  · rw [if_neg h, if_neg (fun e => h e.1)]
    exact ⟨0, by omega⟩

theorem elF_mul {r : Nat} {a : Nat → Nat → Nat} {i : Nat} (hi : a i r < PM) (hp : a r r < PM) (h0 : a r r ≠ 0) : elF r a i * a r r % PM = a i r := by
  unfold elF
  rw [Nat.mod_mul_mod, Nat.mul_assoc, Nat.mul_comm (invN (a r r)), Nat.mul_mod, inv_mul (Nat.pos_of_ne_zero h0) hp, Nat.mul_one, Nat.mod_mod, Nat.mod_eq_of_lt hi]
theorem El.step {n c r : Nat} {m : Mx} {a : Nat → Nat → Nat} {z : Int} (h : El n c m r a z) (hr : r < n) (hc : r < c) (h0 : a r r ≠ 0) : El n c m (r + 1) (elM r a) (z * (a r r : Int)) := by
  obtain ⟨σ, τ, s, B, h⟩ := h
  have hm := fun {i j : Nat} (hi : i < n) (hj : j < c) => elM_mod h.lt hr h.tri hi hj
  have hq : (if r < r then -(elF r a r : Int) else 0) = 0 := if_neg (Nat.lt_irrefl _)
  refine ⟨σ, τ, s, _, h.sg, h.sl, h.tl, h.sd, Eqv.trans h.eq (Eqv.raddAll B r hr (fun i => if r < i then -(elF r a i : Int) else 0) n (Nat.le_refl _)), fun i j hi hj => ?_, fun k is js hk h1 h2 h3 => ?_, fun i j hi hj => ?_, fun i j hi hj hji => ?_, fun i hi => ?_, hr, hc, ?_⟩
  · have e1 := hm hi hj
    have e2 := h.md i j hi hj
    have e3 := h.md r j hr hj
    by_cases e : i = r
    · subst e
      rw [if_neg (fun e => e.2 rfl)]
      rw [hq, Int.zero_mul, Int.add_zero] at e1
      have := Int.dvd_add e1 e2
      rwa [show nM (elM i a) i j - nM a i j + (nM a i j - B i j) = nM (elM i a) i j - B i j by omega] at this
    · rw [if_pos ⟨hi, e⟩]
      generalize (if r < i then -(elF r a i : Int) else 0) = q at e1
      have e4 := Int.dvd_add (Int.dvd_add e1 e2) (Int.dvd_trans e3 (Int.dvd_mul_left q (nM a r j - B r j)))
      rw [Int.mul_sub] at e4
      generalize q * nM a r j = u at e4
      generalize q * B r j = v at e4 ⊢
      rwa [show nM (elM r a) i j - (nM a i j + u) + (nM a i j - B i j) + (u - v) = nM (elM r a) i j - (B i j + v) by omega] at e4
  · have hisn : ∀ x, x < k → is x < n := fun x hx => by
      by_cases e : x < r + 1
      · rw [h1 x e]; omega
      · exact (h2 x (by omega) hx).2
    have e1 := det_mod (p := (PM : Int)) (k := k) (A := fun x y => nM (elM r a) (is x) (js y)) (B := fun x y => nM a (is x) (js y) + (if r < is x then -(elF r a (is x) : Int) else 0) * nM a (is r) (js y)) fun x y hx hy => by
      rw [h1 r (by omega)]
      exact hm (hisn x hx) (h3 y hy)
    have e2 := det_raddA (k := k) (r := r) (A := fun x y => nM a (is x) (js y)) (q := fun x => if r < is x then -(elF r a (is x) : Int) else 0) (by omega) (by
      show (if r < is r then -(elF r a (is r) : Int) else 0) = 0
      rw [h1 r (by omega)]; exact hq)
    rw [e2] at e1
    have e3 := h.mn k is js (by omega) (fun x hx => h1 x (by omega)) (fun x hx hxk => by
      by_cases e : x = r
      · subst e; rw [h1 x (by omega)]; exact ⟨Nat.le_refl _, hr⟩
      · have := h2 x (by omega) hxk; exact ⟨by omega, this.2⟩) h3
    have := Int.dvd_add e1 e3
    generalize det k (fun x y => nM (elM r a) (is x) (js y)) = d1 at *
    generalize det k (fun x y => nM a (is x) (js y)) = d2 at *
    rwa [show d1 - d2 + (d2 - det k fun x y => m (σ (is x)) (τ (js y))) = d1 - det k fun x y => m (σ (is x)) (τ (js y)) by omega] at this
  · unfold elM
    split
    · exact subN_lt (h.lt i j hi hj) (Nat.mod_lt _ (by decide))
    · exact h.lt i j hi hj
  · unfold elM
    by_cases e : j = r
    · subst e
      rw [if_pos ⟨hji, Nat.le_refl _⟩, elF_mul (h.lt i j hi hc) (h.lt j j hr hc) h0]
      unfold subN
      rw [if_neg (Nat.lt_irrefl _), Nat.sub_self]
    · rw [if_neg (by omega)]; exact h.tri i j hi (by omega) hji
  · unfold elM
    rw [if_neg (by omega)]
    by_cases e : i = r
    · subst e; exact h0
    · exact h.piv i (by omega)
  · show z * (a r r : Int) = s * (pI r (fun i => (elM r a i i : Int)) * (elM r a r r : Int))
    rw [h.zz, pI_congr (f := fun i => (elM r a i i : Int)) (g := fun i => (a i i : Int)) fun i hi => by unfold elM; rw [if_neg (by omega)]]
    unfold elM
    rw [if_neg (by omega), Int.mul_assoc]
/-- what the elimination tells -/
structure ElR (n c : Nat) (m : Mx) (r : Nat) (v : Int) : Prop where
  rn : r ≤ n
  rc : r ≤ c
  up : Dv n c (r + 1) m 0
  mn : ∃ (is js : Nat → Nat) (s : Int), (∀ x, x < r → is x < n) ∧ (∀ y, y < r → js y < c) ∧ (s = 1 ∨ s = -1) ∧ v = s * det r fun x y => m (is x) (js y)
  nz : v ≠ 0
  dt : n = c → r = n → v = det n m
  bd : v.natAbs ≤ bndM n c m
theorem Dv.up {n c k : Nat} {m : Mx} {g : Int} (h : Dv n c k m g) : Dv n c (k + 1) m g := fun is js his hjs => by
  rw [det_succ]
  exact dvd_sI fun j hj => Int.dvd_trans (h (fun i => is (i + 1)) (fun l => js (sk j l)) (fun a ha => his _ (by omega)) fun b hb => hjs _ (sk_lt hb)) (Int.dvd_mul_left ..)
theorem Dv.ups {n c k : Nat} {m : Mx} {g : Int} (h : Dv n c k m g) : ∀ d, Dv n c (k + d) m g
  | 0 => h
  | d + 1 => (h.ups d).up
theorem pv_no {f : Nat → Nat} : ∀ {r : Nat}, (∀ i, i < r → 0 < f i ∧ f i < PM) → ¬ (PM : Int) ∣ pI r fun i => (f i : Int)
  | 0, _, h => by
    obtain ⟨t, ht⟩ := h
    have ht : (1 : Int) = (PM : Int) * t := ht
    have hp : (PM : Int) = 2305843009213693951 := rfl
    rw [hp] at ht
    omega
  | r + 1, hf, h => by
    have h : (PM : Int) ∣ pI r (fun i => (f i : Int)) * (f r : Int) := h
    refine pv_no (r := r) (fun i hi => hf i (by omega)) ?_
    have e := inv_mul (hf r (by omega)).1 (hf r (by omega)).2
    have e2 := dvd_mod PM (f r * invN (f r))
    rw [e, Int.natCast_mul] at e2
    have h2 := Int.dvd_mul_of_dvd_left (c := (invN (f r) : Int)) h
    have h3 := Int.dvd_mul_of_dvd_right (b := (pI r fun i => (f i : Int))) e2
    have h4 := Int.dvd_sub h2 h3
    generalize (pI r fun i => (f i : Int)) = P at h4 ⊢
    rw [Int.mul_assoc, ← Int.mul_sub] at h4
    generalize ((f r : Nat) : Int) * ((invN (f r) : Nat) : Int) = u at h4
    rwa [show u - (u - ((1 : Nat) : Int)) = 1 by omega, Int.mul_one] at h4
/-- the number that stands for a residue -/
def mvN (mi : Nat) : Int := if 1152921504606846975 < mi then -((PM - mi : Nat) : Int) else (mi : Int)
theorem mvN_eq {mi : Nat} {x : Int} (hm : mi < PM) (hx : x.natAbs ≤ 1125899906842624) (h : (PM : Int) ∣ (mi : Int) - x) : mvN mi = x := by
  obtain ⟨t, ht⟩ := h
  have hp : PM = 2305843009213693951 := rfl
  rw [hp] at ht hm
  unfold mvN
  rw [hp]
  split <;> omega
theorem El.last {n c r mi : Nat} {m : Mx} {a : Nat → Nat → Nat} {z : Int} (h : El n c m r a z) (hz : ∀ i j, r ≤ i → i < n → r ≤ j → j < c → a i j = 0) (hb : bndM n c m ≤ 1125899906842624) (hm : mi < PM) (hmz : (PM : Int) ∣ (mi : Int) - z) : ElR n c m r (mvN mi) := by
  obtain ⟨σ, τ, s, B, h⟩ := h
  have hlead := h.mn r id id (Nat.le_refl _) (fun x _ => rfl) (fun x hx hxr => by omega) (fun y hy => by show y < c; have := h.rc; omega)
  have hut : det r (fun x y => nM a (id x) (id y)) = pI r fun i => (a i i : Int) := det_upper fun i j hi hj => by
    show ((a i j : Nat) : Int) = 0
    rw [h.tri i j (by have := h.rn; omega) (by omega) hj]; rfl
  rw [hut] at hlead
  have hpn : ¬ (PM : Int) ∣ pI r fun i => (a i i : Int) := pv_no fun i hi => ⟨Nat.pos_of_ne_zero (h.piv i hi), h.lt i i (by have := h.rn; omega) (by have := h.rc; omega)⟩
  have hpe : ((PM : Nat) : Int) = 2305843009213693951 := rfl
  have hup : Dv n c (r + 1) m 0 := by
    have e0 : Dv n c (r + 1) (nM a) 0 := by
      intro is js his hjs
      have : det (r + 1) (fun x y => nM a (is x) (js y)) = 0 := by
        by_cases hex : ∃ x, x < r + 1 ∧ r ≤ is x
        · obtain ⟨x, hx, hxr⟩ := hex
          refine det_r0 hx fun j hj => ?_
          show ((a (is x) (js j) : Nat) : Int) = 0
          by_cases e : js j < r
          · rw [h.tri _ _ (his x hx) e (by omega)]; rfl
          · rw [hz _ _ hxr (his x hx) (by omega) (hjs j hj)]; rfl
        · have hinj : ∃ x y, x < r + 1 ∧ y < r + 1 ∧ x ≠ y ∧ is x = is y := by
            apply Classical.byContradiction
            intro hno
            obtain ⟨b, hb, hbr⟩ := pigeon (k := r) (js := is) fun x y hx hy e => by
              apply Classical.byContradiction
              exact fun hne => hno ⟨x, y, hx, hy, hne, e⟩
            exact hex ⟨b, hb, hbr⟩
          obtain ⟨x, y, hx, hy, hne, e⟩ := hinj
          exact det_rows hx hy hne fun j _ => by rw [e]
      rw [this]
      exact Int.dvd_refl 0
    have e1 : Dv n c (r + 1) B (PM : Int) := fun is js his hjs => by
      have d1 := det_mod (p := (PM : Int)) (k := r + 1) (A := fun x y => nM a (is x) (js y)) (B := fun x y => B (is x) (js y)) fun x y hx hy => h.md _ _ (his x hx) (hjs y hy)
      have d2 := e0 is js his hjs
      rw [Int.zero_dvd.1 d2] at d1
      rw [Int.zero_sub] at d1
      exact (Int.dvd_neg.1 d1)
    exact minor_zero (p := PM) (by have : PM = 2305843009213693951 := rfl; omega) (Dv.eqv h.eq.symm e1)
  have hmb := fun {k : Nat} (is js : Nat → Nat) (his : ∀ x, x < k → is x < n) (hjs : ∀ y, y < k → js y < c) (hne : det k (fun x y => m (is x) (js y)) ≠ 0) => minor_bound (n := n) (c := c) m (k := k) (is := is) (js := js)
    (fun x y hx hy e => Classical.byContradiction fun hxy => hne (det_rows hx hy hxy fun j _ => by rw [e])) his (fun x y hx hy e => Classical.byContradiction fun hxy => hne (det_cols hx hy hxy fun j _ => by rw [e])) hjs
  have hdz : det r (fun x y => m (σ x) (τ y)) ≠ 0 := fun e => hpn (by
    have e : det r (fun x y => m (σ (id x)) (τ (id y))) = 0 := e
    rwa [e, Int.sub_zero] at hlead)
  have hsl : ∀ x, x < r → σ x < n := fun x hx => h.sl x (by have := h.rn; omega)
  have htl : ∀ y, y < r → τ y < c := fun y hy => h.tl y (by have := h.rc; omega)
  have hbd := hmb σ τ hsl htl hdz
  have hs1 : (s * det r fun x y => m (σ x) (τ y)).natAbs = (det r fun x y => m (σ x) (τ y)).natAbs := by
    rcases h.sg with e | e <;> rw [e] <;> omega
  have hv : mvN mi = s * det r fun x y => m (σ x) (τ y) := by
    refine mvN_eq hm (by omega) ?_
    have e := Int.dvd_add hmz (Int.dvd_mul_of_dvd_right (b := s) hlead)
    rw [Int.mul_sub, ← h.zz] at e
    have e : (PM : Int) ∣ (mi : Int) - z + (z - s * det r fun x y => m (σ x) (τ y)) := e
    rwa [show (mi : Int) - z + (z - s * det r fun x y => m (σ x) (τ y)) = (mi : Int) - s * det r fun x y => m (σ x) (τ y) by omega] at e
  refine ⟨h.rn, h.rc, hup, ⟨σ, τ, s, hsl, htl, h.sg, hv⟩, ?_, fun e1 e2 => ?_, by rw [hv, hs1]; exact hbd⟩
  · rw [hv]
    intro e
    have : (s * det r fun x y => m (σ x) (τ y)).natAbs = 0 := by rw [e]; rfl
    rw [hs1] at this
    exact hdz (Int.natAbs_eq_zero.1 this)
  · subst e2
    rw [hv, h.sd e1, ← Int.mul_assoc]
    rcases h.sg with e | e <;> rw [e] <;> omega
end Go.Proofs.Yteanhbldhaiekaa
