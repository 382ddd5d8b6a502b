/-
  The permutations of three points, by numbers below 6; images of words; homomorphisms. No program here.
-/
import Derived.Test.YtcjgfncbecbhjaaBalM
namespace Go.Proofs.Ytcjgfncbecbhjaa

/-- where permutation d takes point i -/
def vl (d i : Nat) : Nat := ([0, 1, 2, 0, 2, 1, 1, 0, 2, 1, 2, 0, 2, 0, 1, 2, 1, 0] : List Nat).getD (3 * d + i) 0
/-- p, then q -/
def mulD (p q : Nat) : Nat := ((List.range 6).find? fun d => decide (vl d 0 = vl q (vl p 0)) && decide (vl d 1 = vl q (vl p 1)) && decide (vl d 2 = vl q (vl p 2))).getD 0
def invD (p : Nat) : Nat := ((List.range 6).find? fun d => decide (vl d (vl p 0) = 0) && decide (vl d (vl p 1) = 1) && decide (vl d (vl p 2) = 2)).getD 0
theorem vl_lt : ∀ d, d < 6 → ∀ i, i < 3 → vl d i < 3 := by decide
theorem mul_lt : ∀ p, p < 6 → ∀ q, q < 6 → mulD p q < 6 := by decide
theorem inv_lt : ∀ p, p < 6 → invD p < 6 := by decide
theorem mul_vl : ∀ p, p < 6 → ∀ q, q < 6 → ∀ i, i < 3 → vl (mulD p q) i = vl q (vl p i) := by decide
theorem inv_vl : ∀ p, p < 6 → ∀ i, i < 3 → vl (invD p) (vl p i) = i := by decide
theorem vl_inj : ∀ p, p < 6 → ∀ q, q < 6 → vl p 0 = vl q 0 → vl p 1 = vl q 1 → vl p 2 = vl q 2 → p = q := by decide
theorem mul_asc : ∀ p, p < 6 → ∀ q, q < 6 → ∀ r, r < 6 → mulD (mulD p q) r = mulD p (mulD q r) := by decide
theorem one_mul' : ∀ p, p < 6 → mulD 0 p = p := by decide
theorem mul_one' : ∀ p, p < 6 → mulD p 0 = p := by decide
theorem inv_mul' : ∀ p, p < 6 → mulD (invD p) p = 0 := by decide
theorem mul_inv' : ∀ p, p < 6 → mulD p (invD p) = 0 := by decide
/-- the image of a letter -/
def ltD (l : List Nat) (x : Int) : Nat := if x < 0 then invD (gN l (ga x)) else gN l (ga x)
def imgF (l : List Nat) (p : Nat) (w : List Int) : Nat := w.foldl (fun p x => mulD p (ltD l x)) p
/-- the image of a word -/
def imgD (l : List Nat) (w : List Int) : Nat := imgF l 0 w
def DgL (l : List Nat) : Prop := ∀ k, k < l.length → gN l k < 6
/-- letters of a word for n generators -/
def WL (n : Nat) (w : List Int) : Prop := ∀ x ∈ w, x ≠ 0 ∧ ga x < n
section
variable {l : List Nat} (hl : DgL l)
include hl
theorem lt_lt {x : Int} (hx : ga x < l.length) : ltD l x < 6 := by
  unfold ltD; split
  · exact inv_lt _ (hl _ hx)
  · exact hl _ hx
theorem imgF_lt : ∀ (w : List Int) (p : Nat), p < 6 → WL l.length w → imgF l p w < 6
  | [], _, hp, _ => hp
  | x :: w, _, hp, hw => imgF_lt w _ (mul_lt _ hp _ (lt_lt hl (hw x List.mem_cons_self).2)) fun y hy => hw y (List.mem_cons_of_mem _ hy)
theorem imgD_lt {w : List Int} (hw : WL l.length w) : imgD l w < 6 := imgF_lt hl w 0 (by decide) hw
theorem imgF_mul : ∀ (w : List Int) (p : Nat), p < 6 → WL l.length w → imgF l p w = mulD p (imgD l w)
  | [], p, hp, _ => (mul_one' p hp).symm
  | x :: w, p, hp, hw => by
    have hx := lt_lt hl (hw x List.mem_cons_self).2
    have hw' : WL l.length w := fun y hy => hw y (List.mem_cons_of_mem _ hy)
    show imgF l (mulD p (ltD l x)) w = mulD p (imgF l (mulD 0 (ltD l x)) w)
    rw [one_mul' _ hx, imgF_mul w _ (mul_lt _ hp _ hx) hw', imgF_mul w _ hx hw', mul_asc _ hp _ hx _ (imgD_lt hl hw')]
theorem imgD_app {a b : List Int} (ha : WL l.length a) (hb : WL l.length b) : imgD l (a ++ b) = mulD (imgD l a) (imgD l b) := by
  show (a ++ b).foldl _ 0 = _
  rw [List.foldl_append]
  exact imgF_mul hl b _ (imgD_lt hl ha) hb
theorem imgD_one {x : Int} (hx : ga x < l.length) : imgD l [x] = ltD l x := by
  show mulD 0 (ltD l x) = _
  exact one_mul' _ (lt_lt hl hx)
omit hl in
theorem lt_neg {x : Int} (hx : x ≠ 0) : ltD l (-x) = if x < 0 then gN l (ga x) else invD (gN l (ga x)) := by
  unfold ltD
  rw [ga_neg]
  rcases Int.lt_or_gt_of_ne hx with h | h
  · rw [if_neg (by omega), if_pos h]
  · rw [if_pos (by omega), if_neg (by omega)]
theorem lt_cancel {x : Int} (hx : x ≠ 0) (hg : ga x < l.length) : mulD (ltD l (-x)) (ltD l x) = 0 := by
  rw [lt_neg hx]
  unfold ltD
  rcases Int.lt_or_gt_of_ne hx with h | h
  · rw [if_pos h, if_pos h]; exact mul_inv' _ (hl _ hg)
  · rw [if_neg (by omega), if_neg (by omega)]; exact inv_mul' _ (hl _ hg)
omit hl in
theorem WL.app {n : Nat} {a b : List Int} (ha : WL n a) (hb : WL n b) : WL n (a ++ b) := fun x hx => (List.mem_append.1 hx).elim (ha x) (hb x)
theorem push_img {st : List Int} {x : Int} (hs : WL l.length st) (hx : x ≠ 0) (hg : ga x < l.length) : imgD l (pushL st x) = mulD (imgD l st) (ltD l x) ∧ WL l.length (pushL st x) := by
  have h1 : WL l.length [x] := fun y hy => by rw [List.mem_singleton.1 hy]; exact ⟨hx, hg⟩
  rcases List.eq_nil_or_concat st with rfl | ⟨s, t, e⟩
  · rw [pushL_nil]
    exact ⟨by rw [imgD_one hl hg]; exact (one_mul' _ (lt_lt hl hg)).symm, h1⟩
  · rw [List.concat_eq_append] at e
    subst e
    have hs1 : WL l.length s := fun y hy => hs y (List.mem_append_left _ hy)
    have ht := hs t (List.mem_append_right _ (List.mem_singleton.2 rfl))
    have ht1 : WL l.length [t] := fun y hy => by rw [List.mem_singleton.1 hy]; exact ht
    by_cases h : t = -x
    · rw [pushL_eq h]
      refine ⟨?_, hs1⟩
      rw [imgD_app hl hs1 ht1, imgD_one hl ht.2, mul_asc _ (imgD_lt hl hs1) _ (lt_lt hl ht.2) _ (lt_lt hl hg), h, lt_cancel hl hx hg, mul_one' _ (imgD_lt hl hs1)]
    · rw [pushL_ne h]
      refine ⟨?_, hs.app h1⟩
      rw [imgD_app hl hs h1, imgD_one hl hg]
theorem redF_img : ∀ (ys st : List Int), WL l.length st → WL l.length ys → imgD l (redF st ys) = mulD (imgD l st) (imgD l ys) ∧ WL l.length (redF st ys)
  | [], st, hs, _ => ⟨(mul_one' _ (imgD_lt hl hs)).symm, hs⟩
  | y :: ys, st, hs, hy => by
    have h1 := hy y List.mem_cons_self
    have h2 : WL l.length ys := fun x hx => hy x (List.mem_cons_of_mem _ hx)
    obtain ⟨e1, e2⟩ := push_img hl hs h1.1 h1.2
    obtain ⟨e3, e4⟩ := redF_img ys _ e2 h2
    refine ⟨?_, e4⟩
    have h3 : WL l.length [y] := fun x hx => by rw [List.mem_singleton.1 hx]; exact h1
    show imgD l (redF (pushL st y) ys) = _
    rw [e3, e1, show y :: ys = [y] ++ ys from rfl, imgD_app hl h3 h2, imgD_one hl h1.2, mul_asc _ (imgD_lt hl hs) _ (lt_lt hl h1.2) _ (imgD_lt hl h2)]
theorem red_img {ys : List Int} (hy : WL l.length ys) : imgD l (redL ys) = imgD l ys ∧ WL l.length (redL ys) := by
  obtain ⟨e1, e2⟩ := redF_img hl ys [] (fun _ h => by cases h) hy
  refine ⟨?_, e2⟩
  unfold redL
  rw [e1]
  exact one_mul' _ (imgD_lt hl hy)
end
/-! ### digits -/
/-- the first g digits of x -/
def dg : Nat → Nat → List Nat
  | 0, _ => []
  | g + 1, x => x % 6 :: dg g (x / 6)
theorem dg_len : ∀ g x, (dg g x).length = g
  | 0, _ => rfl
  | g + 1, x => by show (dg g (x / 6)).length + 1 = _; rw [dg_len g]
theorem dg_dg : ∀ g x, DgL (dg g x)
  | 0, _ => fun k hk => by simp [dg] at hk
  | g + 1, x => fun k hk => by
    cases k with
    | zero => show x % 6 < 6; omega
    | succ k => exact dg_dg g (x / 6) k (by simpa [dg] using hk)
/-- what is left of x when k digits are read -/
def rst : Nat → Nat → Nat
  | 0, x => x
  | k + 1, x => rst k x / 6
theorem rst_div : ∀ k x, rst k (x / 6) = rst k x / 6
  | 0, _ => rfl
  | k + 1, x => by show rst k (x / 6) / 6 = rst k x / 6 / 6; rw [rst_div k x]
theorem dg_succ : ∀ g x, dg (g + 1) x = dg g x ++ [rst g x % 6]
  | 0, _ => rfl
  | g + 1, x => by
    show x % 6 :: dg (g + 1) (x / 6) = x % 6 :: (dg g (x / 6) ++ [rst (g + 1) x % 6])
    rw [dg_succ g (x / 6), rst_div]
    rfl
theorem rst_le : ∀ k x, rst k x ≤ x
  | 0, _ => Nat.le_refl _
  | k + 1, x => Nat.le_trans (Nat.div_le_self _ _) (rst_le k x)
/-- all digits are c -/
def rep (c : Nat) : Nat → Nat
  | 0 => 0
  | g + 1 => c + 6 * rep c g
theorem dg_rep {c : Nat} (hc : c < 6) : ∀ g, dg g (rep c g) = List.replicate g c ∧ rep c g < 6 ^ g
  | 0 => ⟨rfl, Nat.one_pos⟩
  | g + 1 => by
    obtain ⟨h1, h2⟩ := dg_rep hc g
    have e1 : (c + 6 * rep c g) % 6 = c := by omega
    have e2 : (c + 6 * rep c g) / 6 = rep c g := by omega
    refine ⟨?_, ?_⟩
    · show (c + 6 * rep c g) % 6 :: dg g ((c + 6 * rep c g) / 6) = _
      rw [e1, e2, h1]; rfl
    · show c + 6 * rep c g < 6 ^ (g + 1)
      rw [Nat.pow_succ]; omega
/-- the digits satisfy all relators -/
def homB (wss : List (List Int)) (l : List Nat) : Bool := wss.all fun w => decide (imgD l w = 0)
def homN (wss : List (List Int)) (g k : Nat) : Nat := cnt (fun x => homB wss (dg g x)) k
theorem LV_WL {n : Nat} {w : List Int} (h : WV (n : Int) w) : WL n w := fun x hx => by
  obtain ⟨k, hk, rfl⟩ := List.mem_iff_getElem.1 hx
  have := h k hk
  rw [gi_lt hk] at this
  exact ⟨this.2.1, wv_ga h _ hx⟩
theorem letter_lt {l : List Nat} {a : Nat} : ltD l ((a : Int) + 1) = gN l a ∧ ltD l (-((a : Int) + 1)) = invD (gN l a) := by
  unfold ltD
  rw [if_neg (by omega), if_pos (by omega), ga_neg]
  have : ga ((a : Int) + 1) = a := by unfold ga; omega
  rw [this]
  exact ⟨rfl, rfl⟩
theorem imgD_four {l : List Nat} (hl : DgL l) {p q r s : Int} (hp : ga p < l.length) : imgD l [p, q, r, s] = mulD (mulD (mulD (ltD l p) (ltD l q)) (ltD l r)) (ltD l s) := by
  unfold imgD imgF
  simp only [List.foldl_cons, List.foldl_nil, one_mul' _ (lt_lt hl hp)]
section
variable {sg mt : List Int} {L : Int} (hd : IsD sg mt L) {l : List Nat} {lp : Nat} (hl : DgL l) (hll : l.length = arC sg mt + lp)
include hd hl hll
omit hl in
theorem rel_wl {c : Nat} (hc : c < sg.length) : WL l.length (relL sg mt c) := by
  rw [hll]
  have h := rel_lv hd (l := lp) hc
  refine LV_WL (wv_of fun x hx => ?_)
  rw [Int.natCast_add]
  exact h x hx
omit hl in
theorem ga_arc {x : Nat} (hx : x < mt.length) : ga ((arN sg mt x : Int) + 1) < l.length ∧ ga (-((arN sg mt x : Int) + 1)) < l.length ∧ arN sg mt x < l.length := by
  have := arN_lt (sg := sg) hd.2.2.2.2.2.1 hd.2.1 hx
  rw [ga_neg]
  unfold ga
  omega
theorem arc_dg {x : Nat} (hx : x < mt.length) : gN l (arN sg mt x) < 6 := hl _ (ga_arc hd hll hx).2.2
end
end Go.Proofs.Ytcjgfncbecbhjaa

