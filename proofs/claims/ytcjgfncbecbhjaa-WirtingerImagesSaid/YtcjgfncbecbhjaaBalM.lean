/-
  Sums of exponents, and that each relator is balanced. No program here.
-/
import Derived.Test.YtcjgfncbecbhjaaCmpA
namespace Go.Proofs.Ytcjgfncbecbhjaa

def sgnI (x : Int) : Int := if 0 < x then 1 else if x < 0 then -1 else 0
/-- the generator of a letter -/
def ga (x : Int) : Nat := x.natAbs - 1
theorem sgn_neg (x : Int) : sgnI (-x) = - sgnI x := by unfold sgnI; repeat (first | split | omega)
theorem ga_neg (x : Int) : ga (-x) = ga x := by unfold ga; omega
theorem sgn_bd (x : Int) : -1 ≤ sgnI x ∧ sgnI x ≤ 1 := by unfold sgnI; repeat (first | split | omega)
def exS (q : List Int) (x : Int) : List Int := q.set (ga x) (gi q (ga x) + sgnI x)
def exL (n : Nat) (ys : List Int) : List Int := ys.foldl exS (List.replicate n 0)
theorem exL_nil (n : Nat) : exL n [] = List.replicate n 0 := rfl
theorem exL_take {n : Nat} {ys : List Int} {k : Nat} (h : k < ys.length) : exL n (ys.take (k + 1)) = exS (exL n (ys.take k)) (gi ys k) := by
  unfold exL
  rw [List.take_succ_eq_append_getElem h, List.foldl_append]
  simp [gi, h]
theorem exF_len : ∀ (ys q : List Int), (ys.foldl exS q).length = q.length
  | [], _ => rfl
  | y :: ys, q => by rw [List.foldl_cons, exF_len ys]; unfold exS; rw [List.length_set]
theorem exL_len (n : Nat) (ys : List Int) : (exL n ys).length = n := by unfold exL; rw [exF_len]; simp
theorem gi_rep (n k : Nat) : gi (List.replicate n (0 : Int)) k = 0 := by
  unfold gi
  rw [List.getD_eq_getElem?_getD]
  by_cases h : k < n
  · simp [h]
  · rw [List.getElem?_eq_none (by simp; omega)]; rfl
theorem gi_set_if {q : List Int} {a z : Nat} {y : Int} (ha : a < q.length) : gi (q.set a y) z = if z = a then y else gi q z := by
  by_cases h : z = a
  · rw [if_pos h, h, gi_set_eq ha]
  · rw [if_neg h, gi_set_ne h]
theorem exF_bd : ∀ (ys q : List Int) (b : Int), (∀ g, -b ≤ gi q g ∧ gi q g ≤ b) → ∀ g, -(b + ys.length) ≤ gi (ys.foldl exS q) g ∧ gi (ys.foldl exS q) g ≤ b + ys.length
  | [], _, _, h, g => by have := h g; simpa using this
  | y :: ys, q, b, h, g => by
    rw [List.foldl_cons]
    have := exF_bd ys (exS q y) (b + 1) (fun g => by
      have hs := sgn_bd y
      have h1 := h g
      have h2 := h (ga y)
      unfold exS
      rcases Nat.lt_or_ge (ga y) q.length with hl | hl
      · rw [gi_set_if hl]; split <;> omega
      · rw [List.set_eq_of_length_le hl]; omega) g
    simp only [List.length_cons, Int.natCast_add, Int.natCast_one] at *
    omega
theorem exL_bd (n : Nat) (ys : List Int) (g : Nat) : -(ys.length : Int) ≤ gi (exL n ys) g ∧ gi (exL n ys) g ≤ ys.length := by
  have := exF_bd ys (List.replicate n 0) 0 (fun g => by rw [gi_rep]; omega) g
  unfold exL; omega

def sumN (f : Nat → Int) : Nat → Int
  | 0 => 0
  | n + 1 => sumN f n + f n
theorem sumN_congr {f g : Nat → Int} : ∀ n, (∀ k, k < n → f k = g k) → sumN f n = sumN g n
  | 0, _ => rfl
  | n + 1, h => by show sumN f n + f n = sumN g n + g n; rw [sumN_congr n (fun k hk => h k (by omega)), h n (by omega)]
theorem sumN_zero {f : Nat → Int} : ∀ n, (∀ k, k < n → f k = 0) → sumN f n = 0
  | 0, _ => rfl
  | n + 1, h => by show sumN f n + f n = 0; rw [sumN_zero n (fun k hk => h k (by omega)), h n (by omega)]; rfl
/-- the sums of the exponents by components, over the first j generators -/
def smL (cs ex : List Int) (c j : Nat) : List Int := (List.range j).foldl (fun o g => o.set (gn cs g) (gi o (gn cs g) + gi ex g)) (List.replicate c 0)
theorem smL_zero (cs ex : List Int) (c : Nat) : smL cs ex c 0 = List.replicate c 0 := rfl
theorem smL_succ (cs ex : List Int) (c j : Nat) : smL cs ex c (j + 1) = (smL cs ex c j).set (gn cs j) (gi (smL cs ex c j) (gn cs j) + gi ex j) := by
  unfold smL
  rw [List.range_succ, List.foldl_append]
  rfl
theorem smL_len (cs ex : List Int) (c j : Nat) : (smL cs ex c j).length = c := by
  induction j with
  | zero => simp [smL]
  | succ j ih => rw [smL_succ, List.length_set, ih]
theorem smL_gi {cs ex : List Int} {c k : Nat} (hk : k < c) : ∀ j, gi (smL cs ex c j) k = sumN (fun g => if gn cs g = k then gi ex g else 0) j := by
  intro j
  induction j with
  | zero => rw [smL_zero, gi_rep]; rfl
  | succ j ih =>
    rw [smL_succ]
    show _ = sumN _ j + (if gn cs j = k then gi ex j else 0)
    by_cases e : gn cs j = k
    · rw [e, gi_set_eq (by rw [smL_len]; exact hk), ih, if_pos rfl]
    · rw [gi_set_ne (fun h => e h.symm), ih, if_neg e, Int.add_zero]
theorem smL_bd {cs ex : List Int} {c : Nat} {B : Int} (hB : ∀ g, -B ≤ gi ex g ∧ gi ex g ≤ B) : ∀ (j : Nat) (k : Nat), -((j : Int) * B) ≤ gi (smL cs ex c j) k ∧ gi (smL cs ex c j) k ≤ (j : Int) * B := by
  intro j
  induction j with
  | zero => intro k; rw [smL_zero, gi_rep]; simp
  | succ j ih =>
    intro k
    have h1 := ih k
    have h2 := ih (gn cs j)
    have h3 := hB j
    have e : ((j + 1 : Nat) : Int) * B = (j : Int) * B + B := by rw [Int.natCast_add, Int.add_mul]; simp
    rw [smL_succ, e]
    rcases Nat.lt_or_ge (gn cs j) (smL cs ex c j).length with hl | hl
    · rw [gi_set_if hl]; split <;> omega
    · rw [List.set_eq_of_length_le hl]; omega
theorem sum_set {P : Nat → Prop} [DecidablePred P] {q : List Int} {a : Nat} {s : Int} (ha : a < q.length) : ∀ m, sumN (fun g => if P g then gi (q.set a (gi q a + s)) g else 0) m = sumN (fun g => if P g then gi q g else 0) m + if a < m ∧ P a then s else 0 := by
  intro m
  induction m with
  | zero => simp [sumN]
  | succ m ih =>
    show sumN _ m + (if P m then gi (q.set a (gi q a + s)) m else 0) = sumN _ m + (if P m then gi q m else 0) + _
    rw [ih, gi_set_if ha]
    by_cases hP : P m <;> by_cases e : m = a
    · subst e
      rw [if_pos hP, if_pos hP, if_pos rfl, if_neg (by omega), if_pos ⟨by omega, hP⟩]; omega
    · have : (a < m + 1 ∧ P a) ↔ (a < m ∧ P a) := ⟨fun h => ⟨by omega, h.2⟩, fun h => ⟨by omega, h.2⟩⟩
      rw [if_pos hP, if_pos hP, if_neg e]
      simp only [this]
      omega
    · subst e
      rw [if_neg hP, if_neg hP, if_neg (by omega), if_neg (by intro h; exact hP h.2)]
    · have : (a < m + 1 ∧ P a) ↔ (a < m ∧ P a) := ⟨fun h => ⟨by omega, h.2⟩, fun h => ⟨by omega, h.2⟩⟩
      rw [if_neg hP, if_neg hP]
      simp only [this]
      omega
/-- the exponents in ys of the generators of component k add up to this -/
def bal (cs ys : List Int) (k : Nat) : Int := (ys.map fun x => if gn cs (ga x) = k then sgnI x else 0).sum
theorem bal_nil (cs : List Int) (k : Nat) : bal cs [] k = 0 := rfl
theorem bal_cons (cs : List Int) (y : Int) (ys : List Int) (k : Nat) : bal cs (y :: ys) k = (if gn cs (ga y) = k then sgnI y else 0) + bal cs ys k := by simp [bal]
theorem bal_app (cs xs ys : List Int) (k : Nat) : bal cs (xs ++ ys) k = bal cs xs k + bal cs ys k := by simp [bal, List.sum_append]
theorem exF_bal {cs : List Int} {k n : Nat} : ∀ (ys q : List Int), q.length = n → (∀ y ∈ ys, ga y < n) → sumN (fun g => if gn cs g = k then gi (ys.foldl exS q) g else 0) n = sumN (fun g => if gn cs g = k then gi q g else 0) n + bal cs ys k
  | [], _, _, _ => by simp [bal]
  | y :: ys, q, hq, h => by
    have hy := h y List.mem_cons_self
    rw [List.foldl_cons, exF_bal ys (exS q y) (by unfold exS; rw [List.length_set]; exact hq) (fun x hx => h x (List.mem_cons_of_mem _ hx)), bal_cons]
    unfold exS
    rw [sum_set (P := fun g => gn cs g = k) (by rw [hq]; exact hy)]
    simp only [hy, true_and]
    omega
theorem sums_bal {cs ys : List Int} {c k n : Nat} (hk : k < c) (h : ∀ y ∈ ys, ga y < n) : gi (smL cs (exL n ys) c n) k = bal cs ys k := by
  rw [smL_gi hk]
  unfold exL
  rw [exF_bal ys _ (by simp) h, sumN_zero _ (fun g _ => by rw [gi_rep]; simp)]
  omega
theorem push_bal (cs st : List Int) (x : Int) (k : Nat) : bal cs (pushL st x) k = bal cs st k + (if gn cs (ga x) = k then sgnI x else 0) := by
  rcases List.eq_nil_or_concat st with rfl | ⟨s, t, e⟩
  · rw [pushL_nil, bal_cons]; simp [bal]
  · rw [List.concat_eq_append] at e
    subst e
    by_cases h : t = -x
    · rw [pushL_eq h, bal_app, bal_cons, bal_nil, h, ga_neg, sgn_neg]
      split <;> omega
    · rw [pushL_ne h, bal_app _ (s ++ [t]), bal_cons cs x, bal_nil]; omega
theorem redF_bal (cs : List Int) (k : Nat) : ∀ (ys st : List Int), bal cs (redF st ys) k = bal cs st k + bal cs ys k
  | [], st => by simp [redF, bal]
  | y :: ys, st => by
    show bal cs (redF (pushL st y) ys) k = _
    rw [redF_bal cs k ys, push_bal, bal_cons]; omega
theorem red_bal (cs ys : List Int) (k : Nat) : bal cs (redL ys) k = bal cs ys k := by unfold redL; rw [redF_bal, bal_nil]; omega

section
variable {sg mt : List Int} {L : Int} (hd : IsD sg mt L)
include hd
/-- the way under a crossing -/
theorem under_rc {c : Nat} (hc : c < sg.length) : oh sg mt (4 * c) = gn mt (4 * c) ∧ oh sg mt (4 * c + 2) = 4 * c + 2 ∧ nxS mt (gn mt (4 * c)) = 4 * c + 2 := by
  have hN := hd.2.1
  have hI := hd.2.2.2.2.2.1
  have g0 := hI.gn (show 4 * c < mt.length by omega)
  refine ⟨oh_in ?_, oh_of_out ?_, ?_⟩
  · unfold outB; rw [if_neg (by omega), if_neg (by omega), if_neg (by omega)]
  · unfold outB; rw [if_neg (by omega), if_pos (by omega)]
  · unfold nxS; rw [g0.2.2.2]; unfold turnN; omega
theorem under_cmp {c l : Nat} (hc : c < sg.length) : gi (cmpL sg mt l) (arN sg mt (4 * c)) = gi (cmpL sg mt l) (arN sg mt (4 * c + 2)) := by
  have hN := hd.2.1
  have hI := hd.2.2.2.2.2.1
  have hP := nxS_perm hI hN
  have h0 : 4 * c < mt.length := by omega
  obtain ⟨e0, e2, e3⟩ := under_rc hd hc
  obtain ⟨i, hi, hxi⟩ := on_strand hd h0
  rw [cmp_at hd l h0 hi hxi]
  have hg := oh_lt hd h0
  have := stN_rc hd hi hxi (rc_next hP hg)
  rw [e0, e3, ← e2] at this
  rw [cmp_at hd l (show 4 * c + 2 < mt.length by omega) hi this]
theorem rel_bal {c l k : Nat} (hc : c < sg.length) : bal (cmpL sg mt l) (relL sg mt c) k = 0 := by
  have e := under_cmp hd (l := l) hc
  have ga1 : ∀ a : Nat, ga ((a : Int) + 1) = a := fun a => by unfold ga; omega
  have ga2 : ∀ a : Nat, ga (-((a : Int) + 1)) = a := fun a => by unfold ga; omega
  have s1 : ∀ a : Nat, sgnI ((a : Int) + 1) = 1 := fun a => by unfold sgnI; rw [if_pos (by omega)]
  have s2 : ∀ a : Nat, sgnI (-((a : Int) + 1)) = -1 := fun a => by rw [sgn_neg, s1]
  have e' : gn (cmpL sg mt l) (arN sg mt (4 * c)) = gn (cmpL sg mt l) (arN sg mt (4 * c + 2)) := by unfold gn; rw [e]
  unfold relL
  dsimp only
  split <;> simp only [bal_cons, bal_nil, ga1, ga2, s1, s2, e'] <;> repeat (first | split | omega)
theorem wrd_bal {c l k : Nat} (hc : c < sg.length) : bal (cmpL sg mt l) ((wrdL sg mt sg.length).getD c []) k = 0 := by
  have e : (wrdL sg mt sg.length).getD c [] = redL (relL sg mt c) := by simp [wrdL, hc]
  rw [e, red_bal, rel_bal hd hc]
omit hd in
theorem wrd_short {c : Nat} (hc : c < sg.length) : ((wrdL sg mt sg.length).getD c []).length ≤ 4 := by
  have e : (wrdL sg mt sg.length).getD c [] = redL (relL sg mt c) := by simp [wrdL, hc]
  rw [e]
  have := redF_len [] (relL sg mt c)
  have h2 : (relL sg mt c).length = 4 := by unfold relL; dsimp only; split <;> rfl
  unfold redL
  simp only [List.length_nil] at this
  omega
omit hd in
theorem wv_ga {n : Nat} {ys : List Int} (h : WV (n : Int) ys) : ∀ y ∈ ys, ga y < n := by
  intro y hy
  obtain ⟨k, hk, rfl⟩ := List.mem_iff_getElem.1 hy
  have := h k hk
  have e : gi ys k = ys[k] := by simp [gi, hk]
  rw [e] at this
  obtain ⟨h1, h2, h3, h4⟩ := this
  unfold ga; omega
end
end Go.Proofs.Ytcjgfncbecbhjaa

