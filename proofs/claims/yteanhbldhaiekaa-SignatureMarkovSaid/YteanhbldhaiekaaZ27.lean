/-
  Bordered minors: the identity of the elimination without fractions; vectors that belong to them. No program here.
  The inertia of a symmetric matrix of integers: families of orthogonal vectors; Sylvester's law. No program here.
  The state of the elimination without fractions and its steps. No program here.
  The elimination: two indices at once, and the end. No program here.
  The end of the elimination: inertia, rank, sign of the determinant. No program here.
-/
import Derived.Test.YteanhbldhaiekaaZ26
import Derived.Test.YteanhbldhaiekaaZ08
import Derived.Test.YteanhbldhaiekaaZ20
namespace Go.Proofs.Yteanhbldhaiekaa

def cn (i : Nat) (R : Nat → Nat) : Nat → Nat
  | 0 => i
  | k + 1 => R k
theorem cn_zero (i : Nat) (R : Nat → Nat) : cn i R 0 = i := rfl
theorem cn_succ (i : Nat) (R : Nat → Nat) (k : Nat) : cn i R (k + 1) = R k := rfl
def mn (A : Mx) (k : Nat) (R C : Nat → Nat) : Int := det k fun x y => A (R x) (C y)
theorem mn_zero (A : Mx) (R C : Nat → Nat) : mn A 0 R C = 1 := rfl
theorem mn_row (A : Mx) (k : Nat) (R C : Nat → Nat) (j : Nat) : ∃ g : Nat → Int, ∀ i, mn A (k + 1) (cn i R) (cn j C) = mn A k R C * A i j + sI k fun l => g l * A i (C l) := by
  refine ⟨fun l => sg1 (l + 1) * det k fun x z => A (R x) (cn j C (sk (l + 1) z)), fun i => ?_⟩
  unfold mn
  rw [det_succ, sI_succ']
  have e0 : (det k fun x z => A (cn i R (x + 1)) (cn j C (sk 0 z))) = det k fun x y => A (R x) (C y) := det_congr fun x y _ _ => by rw [cn_succ, sk_zero, cn_succ]
  rw [e0, cn_zero, cn_zero, show sg1 0 = 1 from rfl]
  refine congr (congrArg _ (by rw [Int.one_mul, Int.mul_comm])) (sI_congr fun l _ => ?_)
  simp only [cn_succ]
  rw [Int.mul_assoc, Int.mul_assoc, Int.mul_comm (A i (C l))]
theorem mn_two (A : Mx) (k : Nat) (R C : Nat → Nat) (r j s : Nat) : ∃ h : Nat → Int, ∀ i, mn A (k + 2) (cn i (cn r R)) (cn j (cn s C)) = mn A (k + 1) (cn r R) (cn s C) * A i j - mn A (k + 1) (cn r R) (cn j C) * A i s + sI k fun l => h l * A i (C l) := by
  refine ⟨fun l => sg1 (l + 1 + 1) * det (k + 1) fun x z => A (cn r R x) (cn j (cn s C) (sk (l + 1 + 1) z)), fun i => ?_⟩
  unfold mn
  rw [det_succ, sI_succ', sI_succ']
  have e0 : (det (k + 1) fun x z => A (cn i (cn r R) (x + 1)) (cn j (cn s C) (sk 0 z))) = det (k + 1) fun x y => A (cn r R x) (cn s C y) := det_congr fun x y _ _ => by rw [cn_succ, sk_zero, cn_succ]
  have e1 : (det (k + 1) fun x z => A (cn i (cn r R) (x + 1)) (cn j (cn s C) (sk (0 + 1) z))) = det (k + 1) fun x y => A (cn r R x) (cn j C y) := det_congr fun x y _ _ => by
    rw [cn_succ]
    cases y with
    | zero => rfl
    | succ y => rw [show sk (0 + 1) (y + 1) = y + 2 by unfold sk; rw [if_neg (by omega)]]; rfl
  rw [e0, e1]
  simp only [cn_zero, cn_succ]
  rw [show sg1 0 = 1 from rfl, show sg1 (0 + 1) = -1 from rfl]
  have e2 : (sI k fun l => sg1 (l + 1 + 1) * A i (C l) * det (k + 1) fun x z => A (cn r R x) (cn j (cn s C) (sk (l + 1 + 1) z))) = sI k fun l => (sg1 (l + 1 + 1) * det (k + 1) fun x z => A (cn r R x) (cn j (cn s C) (sk (l + 1 + 1) z))) * A i (C l) :=
    sI_congr fun l _ => by rw [Int.mul_assoc, Int.mul_assoc, Int.mul_comm (A i (C l))]
  rw [e2]
  generalize (sI k fun l => _) = S
  generalize (det (k + 1) fun x y => A (cn r R x) (cn s C y)) = X
  generalize (det (k + 1) fun x y => A (cn r R x) (cn j C y)) = Y
  grind
theorem mn_rep {A : Mx} {k : Nat} {R C : Nat → Nat} {x y : Nat} (hx : x < k) (hy : y < k) (hne : x ≠ y) (h : R x = R y) : mn A k R C = 0 := det_rows hx hy hne fun j _ => by rw [h]
/-- a solution of an equation with a determinant that is not 0 is 0 -/
theorem det_ker {k : Nat} {M : Mx} {c : Nat → Int} (hd : det k M ≠ 0) (h : ∀ x, x < k → (sI k fun y => M x y * c y) = 0) : ∀ y, y < k → c y = 0 := fun r hr => by
  have h1 := det_rsum (k := k) (r := r) (fun i j => M j i) (fun i j => M j i) c hr k
  rw [det_r0 hr (fun b hb => by rw [if_pos rfl]; rw [← h b hb]; exact sI_congr fun y _ => Int.mul_comm _ _), sI_one _ hr (fun i hi hne => by
    rw [det_rows hi hr hne (fun j _ => by rw [if_neg hne, if_pos rfl]), Int.mul_zero])] at h1
  have e : (det k fun a b => if a = r then M b r else M b a) = det k M := by
    rw [← det_tr k M]
    exact det_congr fun a b _ _ => by
      by_cases e : a = r
      · rw [if_pos e, e]
      · rw [if_neg e]
  rw [e] at h1
  rcases Int.mul_eq_zero.1 h1.symm with h2 | h2
  · exact h2
  · exact absurd h2 hd
theorem sI_sub (n : Nat) (f g : Nat → Int) : sI n (fun k => f k - g k) = sI n f - sI n g := by
  rw [show sI n (fun k => f k - g k) = sI n (fun k => f k + -g k) from sI_congr fun k _ => Int.sub_eq_add_neg, sI_add, sI_neg, Int.sub_eq_add_neg]
/-- the identity of the elimination -/
theorem mn_dj {A : Mx} {k : Nat} {R C : Nat → Nat} (hb : mn A k R C ≠ 0) (i r j s : Nat) :
    mn A k R C * mn A (k + 2) (cn i (cn r R)) (cn j (cn s C)) = mn A (k + 1) (cn r R) (cn s C) * mn A (k + 1) (cn i R) (cn j C) - mn A (k + 1) (cn i R) (cn s C) * mn A (k + 1) (cn r R) (cn j C) := by
  obtain ⟨gj, hj⟩ := mn_row A k R C j
  obtain ⟨gs, hs⟩ := mn_row A k R C s
  obtain ⟨h, hh⟩ := mn_two A k R C r j s
  have key : ∀ i, mn A k R C * mn A (k + 2) (cn i (cn r R)) (cn j (cn s C)) - (mn A (k + 1) (cn r R) (cn s C) * mn A (k + 1) (cn i R) (cn j C) - mn A (k + 1) (cn i R) (cn s C) * mn A (k + 1) (cn r R) (cn j C)) =
      sI k fun l => A i (C l) * (mn A k R C * h l - (mn A (k + 1) (cn r R) (cn s C) * gj l - mn A (k + 1) (cn r R) (cn j C) * gs l)) := fun i => by
    have e : (sI k fun l => A i (C l) * (mn A k R C * h l - (mn A (k + 1) (cn r R) (cn s C) * gj l - mn A (k + 1) (cn r R) (cn j C) * gs l))) =
        mn A k R C * (sI k fun l => h l * A i (C l)) - (mn A (k + 1) (cn r R) (cn s C) * (sI k fun l => gj l * A i (C l)) - mn A (k + 1) (cn r R) (cn j C) * (sI k fun l => gs l * A i (C l))) := by
      rw [← sI_mul, ← sI_mul, ← sI_mul, ← sI_sub, ← sI_sub]
      exact sI_congr fun l _ => by grind
    rw [e, hh i, hj i, hs i]
    generalize (sI k fun l => h l * A i (C l)) = S1
    generalize (sI k fun l => gj l * A i (C l)) = S2
    generalize (sI k fun l => gs l * A i (C l)) = S3
    generalize mn A (k + 1) (cn r R) (cn s C) = X
    generalize mn A (k + 1) (cn r R) (cn j C) = Y
    generalize mn A k R C = b
    grind
  have z := det_ker hb (fun x hx => by
    rw [← key (R x)]
    have z1 : mn A (k + 2) (cn (R x) (cn r R)) (cn j (cn s C)) = 0 := mn_rep (x := 0) (y := x + 2) (by omega) (by omega) (by omega) rfl
    have z2 : mn A (k + 1) (cn (R x) R) (cn j C) = 0 := mn_rep (x := 0) (y := x + 1) (by omega) (by omega) (by omega) rfl
    have z3 : mn A (k + 1) (cn (R x) R) (cn s C) = 0 := mn_rep (x := 0) (y := x + 1) (by omega) (by omega) (by omega) rfl
    rw [z1, z2, z3]
    simp)
  have := key i
  rw [sI_all0 fun l hl => by rw [z l hl, Int.mul_zero]] at this
  omega
end Go.Proofs.Yteanhbldhaiekaa
namespace Go.Proofs.Yteanhbldhaiekaa

/-! ### counts -/
def cB : Nat → (Nat → Bool) → Nat
  | 0, _ => 0
  | n + 1, f => cB n f + if f n then 1 else 0
theorem cB_congr : ∀ {n : Nat} {f g : Nat → Bool}, (∀ k, k < n → f k = g k) → cB n f = cB n g
  | 0, _, _, _ => rfl
  | n + 1, _, _, h => by rw [cB, cB, cB_congr fun k hk => h k (by omega), h n (by omega)]
theorem cB_not : ∀ (n : Nat) (f : Nat → Bool), cB n (fun x => !f x) + cB n f = n
  | 0, _ => rfl
  | n + 1, f => by
    have := cB_not n f
    rw [cB, cB]
    cases f n <;> simp <;> omega
theorem cB_filter : ∀ (n : Nat) (f : Nat → Bool), ((List.range n).filter f).length = cB n f
  | 0, _ => rfl
  | n + 1, f => by
    rw [List.range_succ, List.filter_append, List.length_append, cB_filter n f, cB]
    cases h : f n <;> simp [h]
theorem cB_add : ∀ (n m : Nat) (f : Nat → Bool), cB (n + m) f = cB n f + cB m fun k => f (n + k)
  | n, 0, f => rfl
  | n, m + 1, f => by rw [← Nat.add_assoc, cB, cB_add n m f, cB, Nat.add_assoc]
theorem cB_le : ∀ (n : Nat) (f : Nat → Bool), cB n f ≤ n
  | 0, _ => Nat.le_refl _
  | n + 1, f => by
    have := cB_le n f
    rw [cB]
    split <;> omega

/-! ### sums -/
theorem sI_len : ∀ (n m : Nat) (f : Nat → Int), sI (n + m) f = sI n f + sI m fun k => f (n + k)
  | n, 0, f => by rw [Nat.add_zero]; show _ = _ + 0; omega
  | n, m + 1, f => by rw [← Nat.add_assoc]; show sI (n + m) f + f (n + m) = sI n f + (sI m (fun k => f (n + k)) + f (n + m)); rw [sI_len n m f]; omega
theorem sI_sk {j : Nat} : ∀ {n : Nat} (f : Nat → Int), j < n + 1 → sI (n + 1) f = sI n (fun k => f (sk j k)) + f j
  | 0, f, h => by
    have : j = 0 := by omega
    subst this
    rfl
  | n + 1, f, h => by
    by_cases e : j = n + 1
    · subst e
      show sI (n + 1) f + f (n + 1) = _
      rw [sI_congr (n := n + 1) (f := f) (g := fun k => f (sk (n + 1) k)) fun k hk => by unfold sk; rw [if_pos (by omega)]]
    · have := sI_sk (j := j) (n := n) f (by omega)
      show sI (n + 1) f + f (n + 1) = (sI n (fun k => f (sk j k)) + f (sk j n)) + f j
      rw [this, show sk j n = n + 1 by unfold sk; rw [if_neg (by omega)]]
      omega
theorem sI_nn : ∀ {n : Nat} {f : Nat → Int}, (∀ k, k < n → 0 ≤ f k) → 0 ≤ sI n f
  | 0, _, _ => Int.le_refl _
  | n + 1, f, h => by
    have := sI_nn (n := n) (f := f) fun k hk => h k (by omega)
    have := h n (by omega)
    show 0 ≤ sI n f + f n
    omega
theorem sI_n0 : ∀ (n : Nat) (f : Nat → Int), (∀ k, k < n → 0 ≤ f k) → sI n f ≤ 0 → ∀ k, k < n → f k = 0
  | 0, _, _, _ => fun _ hk => absurd hk (Nat.not_lt_zero _)
  | n + 1, f, h, hs => fun k hk => by
    have h1 := sI_nn (n := n) (f := f) fun k hk => h k (by omega)
    have h2 := h n (by omega)
    have hs' : sI n f + f n ≤ 0 := hs
    by_cases e : k = n
    · subst e; omega
    · exact sI_n0 n f (fun k hk => h k (by omega)) (by omega) k (by omega)
theorem mulself (a : Int) : 0 ≤ a * a := by
  by_cases h : 0 ≤ a
  · exact Int.mul_nonneg h h
  · have := Int.mul_nonneg (show 0 ≤ -a by omega) (show 0 ≤ -a by omega)
    rwa [Int.neg_mul_neg] at this

/-! ### more unknowns than equations -/
theorem dep_len : ∀ (L : Nat) (es : List (Nat → Int)) (m : Nat), es.length = L → L < m → ∃ c : Nat → Int, (∃ x, x < m ∧ c x ≠ 0) ∧ ∀ e ∈ es, sI m (fun x => e x * c x) = 0
  | 0, es, m, hl, hm => ⟨fun _ => 1, ⟨0, hm, by decide⟩, fun e he => by rw [List.length_eq_zero_iff.1 hl] at he; simp at he⟩
  | L + 1, [], m, hl, hm => by simp at hl
  | L + 1, e :: es, m, hl, hm => by
    have hl' : es.length = L := by simpa using hl
    by_cases hz : ∀ x, x < m → e x = 0
    · obtain ⟨c, h1, h2⟩ := dep_len L es m hl' (by omega)
      refine ⟨c, h1, fun f hf => ?_⟩
      rcases List.mem_cons.1 hf with rfl | hf
      · exact sI_all0 fun x hx => by rw [hz x hx, Int.zero_mul]
      · exact h2 f hf
    · obtain ⟨x0, hx0, he0⟩ : ∃ x, x < m ∧ e x ≠ 0 := Classical.byContradiction fun hn => hz fun x hx => Classical.byContradiction fun h => hn ⟨x, hx, h⟩
      obtain ⟨n, rfl⟩ : ∃ n, m = n + 1 := ⟨m - 1, by omega⟩
      obtain ⟨c, ⟨x, hx, hc⟩, h2⟩ := dep_len L (es.map fun f j => e x0 * f (sk x0 j) - f x0 * e (sk x0 j)) n (by simpa using hl') (by omega)
      have huk : ∀ k, uk x0 (sk x0 k) = k := fun k => sk_inj (sk_uk (sk_ne x0 k))
      have hsum : ∀ f : Nat → Int, sI (n + 1) (fun x => f x * (if x = x0 then -sI n (fun j => e (sk x0 j) * c j) else e x0 * c (uk x0 x))) =
          sI n (fun j => (e x0 * f (sk x0 j) - f x0 * e (sk x0 j)) * c j) := fun f => by
        rw [sI_sk _ hx0]
        rw [if_pos rfl, Int.mul_neg, ← sI_mul, ← Int.sub_eq_add_neg, ← sI_sub]
        refine sI_congr fun k _ => ?_
        rw [if_neg (sk_ne x0 k), huk]
        grind
      refine ⟨fun x => if x = x0 then -sI n (fun j => e (sk x0 j) * c j) else e x0 * c (uk x0 x), ⟨sk x0 x, sk_lt hx, ?_⟩, fun f hf => ?_⟩
      · show (if _ then _ else _) ≠ (0 : Int)
        rw [if_neg (sk_ne x0 x), huk]
        exact fun h => (Int.mul_eq_zero.1 h).elim he0 hc
      · rw [hsum f]
        rcases List.mem_cons.1 hf with rfl | hf
        · exact sI_all0 fun k _ => by rw [Int.sub_self, Int.zero_mul]
        · exact h2 _ (List.mem_map_of_mem hf)

/-! ### the form -/
def bil (n : Nat) (A : Mx) (v w : Nat → Int) : Int := sI n fun m => v m * sI n fun l => A m l * w l
theorem bil_congr {n : Nat} {A B : Mx} {v v' w w' : Nat → Int} (hA : ∀ i j, i < n → j < n → A i j = B i j) (hv : ∀ m, m < n → v m = v' m) (hw : ∀ m, m < n → w m = w' m) : bil n A v w = bil n B v' w' :=
  sI_congr fun m hm => by rw [hv m hm, sI_congr fun l hl => by rw [hA m l hm hl, hw l hl]]
theorem bil_l {n k : Nat} {A : Mx} (c : Nat → Int) (V : Mx) (w : Nat → Int) : bil n A (fun m => sI k fun x => c x * V x m) w = sI k fun x => c x * bil n A (V x) w := by
  unfold bil
  rw [sI_congr (g := fun m => sI k fun x => c x * (V x m * sI n fun l => A m l * w l)) fun m _ => by
    rw [Int.mul_comm, ← sI_mul]
    exact sI_congr fun x _ => by rw [Int.mul_comm, Int.mul_assoc], sI_swap]
  exact sI_congr fun x _ => sI_mul _ _ _
theorem bil_r {n k : Nat} {A : Mx} (c : Nat → Int) (V : Mx) (v : Nat → Int) : bil n A v (fun m => sI k fun x => c x * V x m) = sI k fun x => c x * bil n A v (V x) := by
  unfold bil
  rw [sI_congr (g := fun m => sI k fun x => c x * (v m * sI n fun l => A m l * V x l)) fun m _ => by
    rw [sI_congr (g := fun l => sI k fun x => c x * (A m l * V x l)) fun l _ => by
      rw [← sI_mul]
      exact sI_congr fun x _ => by rw [← Int.mul_assoc, Int.mul_comm (A m l), Int.mul_assoc], sI_swap, ← sI_mul]
    exact sI_congr fun x _ => by rw [sI_mul, ← Int.mul_assoc, Int.mul_comm (v m), Int.mul_assoc], sI_swap]
  exact sI_congr fun x _ => sI_mul _ _ _
structure Fam (n : Nat) (A V : Mx) (d : Nat → Int) (k : Nat) : Prop where
  ind : ∀ c : Nat → Int, (∀ m, m < n → sI k (fun x => c x * V x m) = 0) → ∀ x, x < k → c x = 0
  off : ∀ x y, x < k → y < k → x ≠ y → bil n A (V x) (V y) = 0
  dg : ∀ x, x < k → bil n A (V x) (V x) = d x
theorem Fam.sq {n k : Nat} {A V : Mx} {d : Nat → Int} (h : Fam n A V d k) (c : Nat → Int) : bil n A (fun m => sI k fun x => c x * V x m) (fun m => sI k fun x => c x * V x m) = sI k fun x => c x * c x * d x := by
  rw [bil_l]
  refine sI_congr fun x hx => ?_
  rw [bil_r, sI_one _ hx fun y hy hne => by rw [h.off x y hx hy (Ne.symm hne), Int.mul_zero], h.dg x hx, Int.mul_assoc]
/-- the matrix has p positive and q negative numbers -/
def Inr (n : Nat) (A : Mx) (p q : Nat) : Prop := ∃ V d, Fam n A V d n ∧ cB n (fun x => decide (0 < d x)) = p ∧ cB n (fun x => decide (d x < 0)) = q
theorem Inr.le {n : Nat} {A : Mx} {p q p' q' : Nat} (h : Inr n A p q) (h' : Inr n A p' q') : p ≤ p' := by
  obtain ⟨V, d, hV, rfl, -⟩ := h
  obtain ⟨W, d', hW, rfl, -⟩ := h'
  refine Classical.byContradiction fun hlt => ?_
  have hnot := cB_not n (fun x => decide (0 < d x))
  obtain ⟨c, ⟨x, hx, hc⟩, hes⟩ := dep_len _ ((List.range n).map (fun m x => if x < n then V x m else -W (x - n) m) ++ (((List.range n).filter (fun x => !decide (0 < d x))).map (fun y x => if x = y then 1 else 0) ++
      ((List.range n).filter (fun x => decide (0 < d' x))).map (fun y x => if x = n + y then 1 else 0))) (n + n) rfl (by
    rw [List.length_append, List.length_append, List.length_map, List.length_map, List.length_map, List.length_range, cB_filter, cB_filter]
    omega)
  have e1 : ∀ m, m < n → sI n (fun x => c x * V x m) = sI n (fun y => c (n + y) * W y m) := fun m hm => by
    have := hes _ (List.mem_append_left _ (List.mem_map_of_mem (List.mem_range.2 hm)))
    rw [sI_len] at this
    rw [sI_congr (g := fun x => c x * V x m) fun x hx => by rw [if_pos hx, Int.mul_comm], sI_congr (n := n) (f := fun k => _ * c (n + k)) (g := fun y => -(c (n + y) * W y m)) fun y hy => by
      rw [if_neg (by omega), show n + y - n = y by omega, Int.neg_mul, Int.mul_comm], sI_neg] at this
    omega
  have e2 : ∀ y, y < n → ¬ 0 < d y → c y = 0 := fun y hy hd => by
    have := hes _ (List.mem_append_right _ (List.mem_append_left _ (List.mem_map_of_mem (List.mem_filter.2 ⟨List.mem_range.2 hy, by simpa using hd⟩))))
    rw [sI_one (k := y) _ (by omega) fun j _ hne => by rw [if_neg hne, Int.zero_mul], if_pos rfl] at this
    omega
  have e3 : ∀ y, y < n → 0 < d' y → c (n + y) = 0 := fun y hy hd => by
    have := hes _ (List.mem_append_right _ (List.mem_append_right _ (List.mem_map_of_mem (List.mem_filter.2 ⟨List.mem_range.2 hy, by simpa using hd⟩))))
    rw [sI_one (k := n + y) _ (by omega) fun j _ hne => by rw [if_neg hne, Int.zero_mul], if_pos rfl] at this
    omega
  have s1 := hV.sq c
  have s2 := hW.sq fun y => c (n + y)
  rw [bil_congr (fun _ _ _ _ => rfl) e1 e1, s2] at s1
  have nn : ∀ x, x < n → 0 ≤ c x * c x * d x := fun x hx => by
    by_cases hd : 0 < d x
    · exact Int.mul_nonneg (mulself _) (by omega)
    · rw [e2 x hx hd]; simp
  have np : sI n (fun y => c (n + y) * c (n + y) * d' y) ≤ 0 := by
    have : 0 ≤ sI n (fun y => -(c (n + y) * c (n + y) * d' y)) := sI_nn fun y hy => by
      by_cases hd : 0 < d' y
      · rw [e3 y hy hd]; simp
      · have := Int.mul_nonneg (mulself (c (n + y))) (show 0 ≤ -d' y by omega)
        rw [Int.mul_neg] at this
        exact this
    rw [sI_neg] at this
    omega
  have c0 : ∀ x, x < n → c x = 0 := fun x hx => by
    by_cases hd : 0 < d x
    · have := sI_n0 _ _ nn (by omega) x hx
      rcases Int.mul_eq_zero.1 this with h | h
      · exact (Int.mul_eq_zero.1 h).elim id id
      · omega
    · exact e2 x hx hd
  have c1 := hW.ind (fun y => c (n + y)) fun m hm => by
    rw [← e1 m hm]
    exact sI_all0 fun x hx => by rw [c0 x hx, Int.zero_mul]
  by_cases hxn : x < n
  · exact hc (c0 x hxn)
  · have := c1 (x - n) (by omega)
    rw [show n + (x - n) = x by omega] at this
    exact hc this
theorem bil_mul {n : Nat} {A B : Mx} {t : Int} (h : ∀ i j, i < n → j < n → B i j = t * A i j) (v w : Nat → Int) : bil n B v w = t * bil n A v w := by
  unfold bil
  rw [← sI_mul]
  refine sI_congr fun m hm => ?_
  rw [sI_congr (g := fun l => t * (A m l * w l)) fun l hl => by rw [h m l hm hl, Int.mul_assoc], sI_mul]
  rw [← Int.mul_assoc, Int.mul_comm (v m), Int.mul_assoc]
theorem Inr.neg {n : Nat} {A B : Mx} {p q : Nat} (h : Inr n A p q) (hB : ∀ i j, i < n → j < n → B i j = -A i j) : Inr n B q p := by
  obtain ⟨V, d, hV, rfl, rfl⟩ := h
  have hb := bil_mul (A := A) (B := B) (t := -1) fun i j hi hj => by rw [hB i j hi hj]; omega
  refine ⟨V, fun x => -d x, ⟨hV.ind, fun x y hx hy hne => by rw [hb, hV.off x y hx hy hne]; rfl, fun x hx => by rw [hb, hV.dg x hx]; omega⟩, cB_congr fun x _ => decide_eq_decide.2 (by show 0 < -d x ↔ _; omega), cB_congr fun x _ => decide_eq_decide.2 (by show -d x < 0 ↔ _; omega)⟩
theorem Inr.mul {n : Nat} {A B : Mx} {p q : Nat} {t : Int} (h : Inr n A p q) (ht : 0 < t) (hB : ∀ i j, i < n → j < n → B i j = t * A i j) : Inr n B p q := by
  obtain ⟨V, d, hV, rfl, rfl⟩ := h
  have hb := bil_mul hB
  refine ⟨V, fun x => t * d x, ⟨hV.ind, fun x y hx hy hne => by rw [hb, hV.off x y hx hy hne, Int.mul_zero], fun x hx => by rw [hb, hV.dg x hx]⟩, cB_congr fun x _ => decide_eq_decide.2 (show 0 < t * d x ↔ 0 < d x from ?_), cB_congr fun x _ => decide_eq_decide.2 (show t * d x < 0 ↔ d x < 0 from ?_)⟩
  · exact ⟨fun h => Classical.byContradiction fun hn => by
      have := Int.mul_nonneg (show 0 ≤ t by omega) (show 0 ≤ -d x by omega)
      rw [Int.mul_neg] at this
      omega, fun h => Int.mul_pos ht h⟩
  · exact ⟨fun h => Classical.byContradiction fun hn => by
      have := Int.mul_nonneg (show 0 ≤ t by omega) (show 0 ≤ d x by omega)
      omega, fun h => by
      have := Int.mul_pos ht (show 0 < -d x by omega)
      rw [Int.mul_neg] at this
      omega⟩
/-- Sylvester's law -/
theorem Inr.uniq {n : Nat} {A : Mx} {p q p' q' : Nat} (h : Inr n A p q) (h' : Inr n A p' q') : p = p' ∧ q = q' := by
  have n1 := h.neg (B := fun i j => -A i j) fun _ _ _ _ => rfl
  have n2 := h'.neg (B := fun i j => -A i j) fun _ _ _ _ => rfl
  exact ⟨Nat.le_antisymm (h.le h') (h'.le h), Nat.le_antisymm (n1.le n2) (n2.le n1)⟩
theorem Inr.congr {n : Nat} {A B : Mx} {p q : Nat} (h : Inr n A p q) (hB : ∀ i j, i < n → j < n → B i j = A i j) : Inr n B p q :=
  h.mul (t := 1) (by decide) fun i j hi hj => by rw [hB i j hi hj, Int.one_mul]
/-- congruent matrices -/
theorem Inr.cong {n : Nat} {A B T : Mx} {p q : Nat} (h : Inr n B p q) (hT : det n T ≠ 0) (hB : ∀ i j, i < n → j < n → B i j = sI n fun a => T a i * sI n fun b => A a b * T b j) : Inr n A p q := by
  obtain ⟨V, d, hV, rfl, rfl⟩ := h
  have hb : ∀ v w, bil n A (fun m => sI n fun l => T m l * v l) (fun m => sI n fun l => T m l * w l) = bil n B v w := fun v w => by
    unfold bil
    rw [sI_congr (g := fun m => sI n fun i => v i * (T m i * sI n fun b => A m b * sI n fun j => T b j * w j)) fun m _ => by
      rw [Int.mul_comm, ← sI_mul]
      exact sI_congr fun i _ => by rw [Int.mul_comm, Int.mul_comm (T m i), Int.mul_assoc], sI_swap]
    refine sI_congr fun i hi => ?_
    rw [sI_mul]
    refine _root_.congrArg (v i * ·) ?_
    have e1 : ∀ a, (sI n fun b => A a b * sI n fun j => T b j * w j) = sI n fun j => (sI n fun b => A a b * T b j) * w j := fun a => by
      rw [sI_congr (g := fun b => sI n fun j => w j * (A a b * T b j)) fun b _ => by
        rw [← sI_mul]
        exact sI_congr fun j _ => by rw [← Int.mul_assoc, Int.mul_comm], sI_swap]
      exact sI_congr fun j _ => by rw [sI_mul, Int.mul_comm]
    rw [sI_congr (g := fun a => sI n fun j => T a i * ((sI n fun b => A a b * T b j) * w j)) fun a _ => by rw [e1, ← sI_mul], sI_swap]
    refine sI_congr fun j hj => ?_
    rw [hB i j hi hj, Int.mul_comm, ← sI_mul]
    exact sI_congr fun a _ => by rw [← Int.mul_assoc, Int.mul_comm]
  refine ⟨fun x m => sI n fun l => T m l * V x l, d, ⟨fun c hc => ?_, fun x y hx hy hne => by rw [hb]; exact hV.off x y hx hy hne, fun x hx => by rw [hb]; exact hV.dg x hx⟩, rfl, rfl⟩
  refine hV.ind c fun m hm => det_ker (c := fun l => sI n fun x => c x * V x l) hT (fun a ha => ?_) m hm
  rw [← hc a ha, sI_congr (g := fun y => sI n fun x => c x * (T a y * V x y)) fun y _ => by
    rw [← sI_mul]
    exact sI_congr fun x _ => by rw [← Int.mul_assoc, Int.mul_comm (T a y), Int.mul_assoc], sI_swap]
  exact sI_congr fun x _ => sI_mul _ _ _
/-- two blocks -/
theorem Inr.blocks {n m : Nat} {A B C : Mx} {p q r s : Nat} (hA : Inr n A p q) (hB : Inr m B r s) (h1 : ∀ i j, i < n → j < n → C i j = A i j) (h2 : ∀ i j, i < m → j < m → C (n + i) (n + j) = B i j)
    (h3 : ∀ i j, i < n → j < m → C i (n + j) = 0 ∧ C (n + j) i = 0) : Inr (n + m) C (p + r) (q + s) := by
  obtain ⟨V, d, hV, rfl, rfl⟩ := hA
  obtain ⟨W, e, hW, rfl, rfl⟩ := hB
  have hb : ∀ v w, bil (n + m) C v w = bil n A v w + bil m B (fun k => v (n + k)) (fun k => w (n + k)) := fun v w => by
    unfold bil
    rw [sI_len]
    refine _root_.congr (_root_.congrArg _ (sI_congr fun i hi => ?_)) (sI_congr fun i hi => ?_)
    · rw [sI_len, sI_all0 (n := m) fun j hj => by rw [(h3 i j hi hj).1, Int.zero_mul], Int.add_zero, sI_congr fun j hj => by rw [h1 i j hi hj]]
    · rw [sI_len, sI_all0 (n := n) fun j hj => by rw [(h3 j i hj hi).2, Int.zero_mul], Int.zero_add, sI_congr fun j hj => by rw [h2 i j hi hj]]
  have z1 : ∀ w, bil m B (fun _ => 0) w = 0 := fun w => sI_all0 fun _ _ => Int.zero_mul _
  have z2 : ∀ w, bil n A (fun _ => 0) w = 0 := fun w => sI_all0 fun _ _ => Int.zero_mul _
  have z3 : ∀ w, bil n A w (fun _ => 0) = 0 := fun w => sI_all0 fun m _ => by rw [sI_all0 fun l _ => Int.mul_zero _, Int.mul_zero]
  have z4 : ∀ w, bil m B w (fun _ => 0) = 0 := fun w => sI_all0 fun k _ => by rw [sI_all0 fun l _ => Int.mul_zero _, Int.mul_zero]
  let U : Mx := fun x k => if x < n then (if k < n then V x k else 0) else if k < n then 0 else W (x - n) (k - n)
  have u1 : ∀ x, x < n → (∀ k, k < n → U x k = V x k) ∧ ∀ k, k < m → U x (n + k) = 0 := fun x hx => ⟨fun k hk => by show (if _ then _ else _) = _; rw [if_pos hx, if_pos hk], fun k _ => by show (if _ then _ else _) = _; rw [if_pos hx, if_neg (by omega)]⟩
  have u2 : ∀ x, ¬ x < n → (∀ k, k < n → U x k = 0) ∧ ∀ k, k < m → U x (n + k) = W (x - n) k := fun x hx => ⟨fun k hk => by show (if _ then _ else _) = _; rw [if_neg hx, if_pos hk], fun k _ => by
    show (if _ then _ else _) = _; rw [if_neg hx, if_neg (by omega), show n + k - n = k by omega]⟩
  have bu : ∀ x y, bil (n + m) C (U x) (U y) = if x < n then (if y < n then bil n A (V x) (V y) else 0) else if y < n then 0 else bil m B (W (x - n)) (W (y - n)) := fun x y => by
    rw [hb]
    by_cases hx : x < n <;> by_cases hy : y < n
    · rw [if_pos hx, if_pos hy, bil_congr (fun _ _ _ _ => rfl) (u1 x hx).1 (u1 y hy).1, bil_congr (n := m) (fun _ _ _ _ => rfl) (u1 x hx).2 (u1 y hy).2, z1, Int.add_zero]
    · rw [if_pos hx, if_neg hy, bil_congr (fun _ _ _ _ => rfl) (u1 x hx).1 (u2 y hy).1, bil_congr (n := m) (fun _ _ _ _ => rfl) (u1 x hx).2 (u2 y hy).2, z1, z3]; rfl
    · rw [if_neg hx, if_pos hy, bil_congr (fun _ _ _ _ => rfl) (u2 x hx).1 (u1 y hy).1, bil_congr (n := m) (fun _ _ _ _ => rfl) (u2 x hx).2 (u1 y hy).2, z2, z4]; rfl
    · rw [if_neg hx, if_neg hy, bil_congr (fun _ _ _ _ => rfl) (u2 x hx).1 (u2 y hy).1, bil_congr (n := m) (fun _ _ _ _ => rfl) (u2 x hx).2 (u2 y hy).2, z2, Int.zero_add]
  refine ⟨U, fun x => if x < n then d x else e (x - n), ⟨fun c hc => ?_, fun x y hx hy hne => ?_, fun x hx => ?_⟩, ?_, ?_⟩
  · have c1 := hV.ind c fun k hk => by
      have := hc k (by omega)
      rw [sI_len, sI_all0 (n := m) fun y hy => by rw [(u2 (n + y) (by omega)).1 k hk, Int.mul_zero], Int.add_zero, sI_congr fun x hx => by rw [(u1 x hx).1 k hk]] at this
      exact this
    have c2 := hW.ind (fun y => c (n + y)) fun k hk => by
      have := hc (n + k) (by omega)
      rw [sI_len, sI_all0 (n := n) fun y hy => by rw [c1 y hy, Int.zero_mul], Int.zero_add, sI_congr (n := m) fun x hx => by rw [(u2 (n + x) (by omega)).2 k hk, show n + x - n = x by omega]] at this
      exact this
    intro x hx
    by_cases hxn : x < n
    · exact c1 x hxn
    · have := c2 (x - n) (by omega)
      rwa [show n + (x - n) = x by omega] at this
  · rw [bu]
    by_cases h : x < n <;> by_cases h' : y < n
    · rw [if_pos h, if_pos h', hV.off x y h h' hne]
    · rw [if_pos h, if_neg h']
    · rw [if_neg h, if_pos h']
    · rw [if_neg h, if_neg h', hW.off _ _ (by omega) (by omega) (by omega)]
  · rw [bu]
    by_cases h : x < n
    · rw [if_pos h, if_pos h, if_pos h, hV.dg x h]
    · rw [if_neg h, if_neg h, if_neg h, hW.dg _ (by omega)]
  · rw [cB_add, cB_congr (n := n) (g := fun x => decide (0 < d x)) fun k hk => decide_eq_decide.2 (by dsimp only; rw [if_pos hk]), cB_congr (n := m) (g := fun x => decide (0 < e x)) fun k hk => decide_eq_decide.2 (by dsimp only; rw [if_neg (by omega), show n + k - n = k by omega])]
  · rw [cB_add, cB_congr (n := n) (g := fun x => decide (d x < 0)) fun k hk => decide_eq_decide.2 (by dsimp only; rw [if_pos hk]), cB_congr (n := m) (g := fun x => decide (e x < 0)) fun k hk => decide_eq_decide.2 (by dsimp only; rw [if_neg (by omega), show n + k - n = k by omega])]
end Go.Proofs.Yteanhbldhaiekaa
namespace Go.Proofs.Yteanhbldhaiekaa

/-- done with -/
def Dn (D : Nat → Nat) (k m : Nat) : Prop := ∃ l, l < k ∧ D l = m
theorem Dn.cn {D : Nat → Nat} {k m i : Nat} : Dn (cn i D) (k + 1) m ↔ m = i ∨ Dn D k m := by
  constructor
  · rintro ⟨l, hl, h⟩
    cases l with
    | zero => exact Or.inl h.symm
    | succ l => exact Or.inr ⟨l, by omega, h⟩
  · rintro (h | ⟨l, hl, h⟩)
    · exact ⟨0, by omega, h.symm⟩
    · exact ⟨l + 1, by omega, h⟩
def bm (A : Mx) (D : Nat → Nat) (k i j : Nat) : Int := mn A (k + 1) (cn i D) (cn j D)
def Sym (n : Nat) (A : Mx) : Prop := ∀ i j, i < n → j < n → A i j = A j i
theorem bil_comm {n : Nat} {A : Mx} (h : Sym n A) (v w : Nat → Int) : bil n A v w = bil n A w v := by
  unfold bil
  rw [sI_congr (g := fun m => sI n fun l => v m * (A m l * w l)) fun m _ => (sI_mul _ _ _).symm, sI_swap]
  refine sI_congr fun l hl => ?_
  rw [← sI_mul]
  exact sI_congr fun m hm => by rw [h m l hm hl]; grind
theorem mn_tr {n k : Nat} {A : Mx} (h : Sym n A) {R C : Nat → Nat} (hR : ∀ x, x < k → R x < n) (hC : ∀ x, x < k → C x < n) : mn A k R C = mn A k C R := by
  unfold mn
  rw [← det_tr]
  exact det_congr fun i j hi hj => h _ _ (hR j hj) (hC i hi)
theorem mn_crep {A : Mx} {k : Nat} {R C : Nat → Nat} {x y : Nat} (hx : x < k) (hy : y < k) (hne : x ≠ y) (h : C x = C y) : mn A k R C = 0 := det_cols hx hy hne fun j _ => by rw [h]
theorem mn_bd {n k : Nat} {A : Mx} {R C : Nat → Nat} (hR : ∀ x, x < k → R x < n) (hC : ∀ x, x < k → C x < n) : (mn A k R C).natAbs ≤ bndM n n A := by
  by_cases h1 : ∀ a b, a < k → b < k → R a = R b → a = b
  · by_cases h2 : ∀ a b, a < k → b < k → C a = C b → a = b
    · exact minor_bound A h1 hR h2 hC
    · have : mn A k R C = 0 := Classical.byContradiction fun hn => h2 fun a b ha hb e => Classical.byContradiction fun hne => hn (mn_crep ha hb hne e)
      rw [this]; exact Nat.zero_le _
  · have : mn A k R C = 0 := Classical.byContradiction fun hn => h1 fun a b ha hb e => Classical.byContradiction fun hne => hn (mn_rep ha hb hne e)
    rw [this]; exact Nat.zero_le _
theorem cn_lt {n k i : Nat} {D : Nat → Nat} (hi : i < n) (h : ∀ x, x < k → D x < n) : ∀ x, x < k + 1 → cn i D x < n := fun x hx => by
  cases x with
  | zero => exact hi
  | succ x => exact h x (by omega)
def vup {α : Type} (f : Nat → α) (k : Nat) (v : α) : Nat → α := fun x => if x = k then v else f x
theorem vup_same {α : Type} (f : Nat → α) (k : Nat) (v : α) : vup f k v k = v := if_pos rfl
theorem vup_lt {α : Type} (f : Nat → α) {k x : Nat} (v : α) (h : x < k) : vup f k v x = f x := if_neg (by omega)
theorem Fam.add {n k : Nat} {A V : Mx} {d : Nat → Int} (h : Fam n A V d k) (v : Nat → Int) (a b : Int) (i j : Nat) (hi : i < n) (hj : j < n) (h0 : ∀ x, x < k → a * V x i + b * V x j = 0) (h1 : a * v i + b * v j ≠ 0)
    (hl : ∀ x, x < k → bil n A (V x) v = 0) (hr : ∀ x, x < k → bil n A v (V x) = 0) : Fam n A (vup V k v) (vup d k (bil n A v v)) (k + 1) := by
  have hs : ∀ (c : Nat → Int) m, sI (k + 1) (fun x => c x * vup V k v x m) = sI k (fun x => c x * V x m) + c k * v m := fun c m => by
    show sI k _ + c k * vup V k v k m = _
    rw [vup_same, sI_congr fun x hx => by rw [vup_lt V v hx]]
  refine ⟨fun c hc => ?_, fun x y hx hy hne => ?_, fun x hx => ?_⟩
  · have ck : c k = 0 := by
      have e1 := hc i hi
      have e2 := hc j hj
      rw [hs] at e1 e2
      have e3 : a * sI k (fun x => c x * V x i) + b * sI k (fun x => c x * V x j) = 0 := by
        rw [← sI_mul, ← sI_mul, ← sI_add]
        exact sI_all0 fun x hx => by
          have := h0 x hx
          have e : a * (c x * V x i) + b * (c x * V x j) = c x * (a * V x i + b * V x j) := by grind
          rw [e, this, Int.mul_zero]
      have e4 : c k * (a * v i + b * v j) = 0 := by grind
      rcases Int.mul_eq_zero.1 e4 with h | h
      · exact h
      · exact absurd h h1
    have c0 := h.ind c fun m hm => by
      have := hc m hm
      rwa [hs, ck, Int.zero_mul, Int.add_zero] at this
    intro x hx
    by_cases e : x = k
    · rw [e, ck]
    · exact c0 x (by omega)
  · by_cases ex : x = k
    · subst ex
      rw [vup_same, vup_lt V v (by omega)]
      exact hr y (by omega)
    · rw [vup_lt V v (show x < k by omega)]
      by_cases ey : y = k
      · subst ey
        rw [vup_same]
        exact hl x (by omega)
      · rw [vup_lt V v (by omega)]
        exact h.off x y (by omega) (by omega) hne
  · by_cases ex : x = k
    · subst ex
      rw [vup_same, vup_same]
    · rw [vup_lt V v (show x < k by omega), vup_lt d _ (show x < k by omega)]
      exact h.dg x (by omega)
/-- orthogonal vectors that live on the numbers of S -/
def FamS (n : Nat) (A : Mx) (S : Nat → Prop) (k p q : Nat) : Prop :=
  ∃ V d, Fam n A V d k ∧ (∀ x m, x < k → m < n → ¬ S m → V x m = 0) ∧ cB k (fun x => decide (0 < d x)) = p ∧ cB k (fun x => decide (d x < 0)) = q
theorem FamS.none (n : Nat) (A : Mx) (S : Nat → Prop) : FamS n A S 0 0 0 :=
  ⟨fun _ _ => 0, fun _ => 0, ⟨fun _ _ _ hx => absurd hx (Nat.not_lt_zero _), fun _ _ hx => absurd hx (Nat.not_lt_zero _), fun _ hx => absurd hx (Nat.not_lt_zero _)⟩, fun _ _ hx => absurd hx (Nat.not_lt_zero _), rfl, rfl⟩
theorem cB_up (k : Nat) (d : Nat → Int) (v : Int) (f : Int → Bool) : cB (k + 1) (fun x => f (vup d k v x)) = cB k (fun x => f (d x)) + if f v then 1 else 0 := by
  show cB k _ + (if f (vup d k v k) then 1 else 0) = _
  rw [vup_same, cB_congr fun x hx => by rw [vup_lt d v hx]]
theorem FamS.add {n k p q : Nat} {A : Mx} {S : Nat → Prop} (hA : Sym n A) (h : FamS n A S k p q) (v : Nat → Int) (j : Nat) (hj : j < n) (hjS : ¬ S j) (hv : v j ≠ 0) (S' : Nat → Prop) (hS : ∀ m, S m → S' m) (hvS : ∀ m, m < n → ¬ S' m → v m = 0)
    (ho : ∀ x : Nat → Int, (∀ m, m < n → ¬ S m → x m = 0) → bil n A x v = 0) : FamS n A S' (k + 1) (p + if 0 < bil n A v v then 1 else 0) (q + if bil n A v v < 0 then 1 else 0) := by
  obtain ⟨V, d, hF, hs, rfl, rfl⟩ := h
  refine ⟨vup V k v, vup d k (bil n A v v), hF.add v 1 0 j j hj hj (fun x hx => by rw [hs x j hx hj hjS]; rfl) (by rw [Int.one_mul, Int.zero_mul, Int.add_zero]; exact hv) (fun x hx => ho _ fun m hm hSm => hs x m hx hm hSm)
    (fun x hx => by rw [bil_comm hA]; exact ho _ fun m hm hSm => hs x m hx hm hSm), fun x m hx hm hSm => ?_, ?_, ?_⟩
  · by_cases ex : x = k
    · rw [ex, vup_same]
      exact hvS m hm hSm
    · rw [vup_lt V v (show x < k by omega)]
      exact hs x m (by omega) hm fun h => hSm (hS m h)
  · rw [cB_up k d _ (fun x => decide (0 < x))]
    simp
  · rw [cB_up k d _ (fun x => decide (x < 0))]
    simp
/-- the state: the indices done with, the pivot before, the counts -/
structure BSt (n : Nat) (A : Mx) (D : Nat → Nat) (k : Nat) (b : Int) (p q : Nat) : Prop where
  dl : ∀ l, l < k → D l < n
  inj : ∀ x y, x < k → y < k → D x = D y → x = y
  bb : mn A k D D = b
  b0 : b ≠ 0
  fam : FamS n A (Dn D k) k p q
  sg : 0 < b ↔ q % 2 = 0
  pq : p + q = k
theorem BSt.start (n : Nat) (A : Mx) (D : Nat → Nat) : BSt n A D 0 1 0 0 :=
  ⟨fun _ h => absurd h (Nat.not_lt_zero _), fun _ _ h => absurd h (Nat.not_lt_zero _), rfl, by decide, FamS.none _ _ _, by decide, rfl⟩
variable {n : Nat} {A : Mx} {D : Nat → Nat} {k : Nat} {b : Int} {p q : Nat}
/-- the vector of an index -/
theorem BSt.vec (h : BSt n A D k b p q) {j : Nat} (hj : j < n) (hjD : ¬ Dn D k j) : ∃ u : Nat → Int, (∀ m, m < n → ¬ Dn D k m → m ≠ j → u m = 0) ∧ u j = b ∧ ∀ i, (sI n fun m => A i m * u m) = bm A D k i j := by
  obtain ⟨g, hg⟩ := mn_row A k D D j
  have hD : ∀ m, ¬ Dn D k m → (sI k fun l => if D l = m then g l else 0) = 0 := fun m hm => sI_all0 fun l hl => if_neg fun e => hm ⟨l, hl, e⟩
  refine ⟨fun m => (if m = j then b else 0) + sI k fun l => if D l = m then g l else 0, fun m _ hm hne => by dsimp only; rw [if_neg hne, hD m hm]; rfl, by dsimp only; rw [if_pos rfl, hD j hjD]; omega, fun i => ?_⟩
  unfold bm
  rw [hg i, h.bb, sI_congr (g := fun m => (A i m * (if m = j then b else 0)) + A i m * sI k fun l => if D l = m then g l else 0) fun m _ => Int.mul_add _ _ _, sI_add,
    sI_one _ hj fun m _ hne => by rw [if_neg hne, Int.mul_zero], if_pos rfl]
  rw [Int.mul_comm b]
  refine _root_.congrArg _ ?_
  rw [sI_congr (g := fun m => sI k fun l => A i m * if D l = m then g l else 0) fun m _ => (sI_mul _ _ _).symm, sI_swap]
  refine sI_congr fun l hl => ?_
  rw [sI_one (k := D l) _ (h.dl l hl) fun m _ hne => by rw [if_neg (Ne.symm hne), Int.mul_zero], if_pos rfl, Int.mul_comm]
theorem bm_done {x j : Nat} (hx : Dn D k x) : bm A D k x j = 0 := by
  obtain ⟨l, hl, rfl⟩ := hx
  exact mn_rep (x := 0) (y := l + 1) (by omega) (by omega) (by omega) rfl
theorem BSt.perp {j : Nat} {u : Nat → Int} (hu : ∀ i, (sI n fun m => A i m * u m) = bm A D k i j) (x : Nat → Int) (hx : ∀ m, m < n → ¬ Dn D k m → x m = 0) : bil n A x u = 0 :=
  sI_all0 fun m hm => by
    rw [hu m]
    by_cases e : Dn D k m
    · rw [bm_done e, Int.mul_zero]
    · rw [hx m hm e, Int.zero_mul]
theorem BSt.gram {i j : Nat} {u v : Nat → Int} (hi : i < n) (hv : ∀ m, m < n → ¬ Dn D k m → m ≠ i → v m = 0) (hvi : v i = b) (hu : ∀ i, (sI n fun m => A i m * u m) = bm A D k i j) : bil n A v u = b * bm A D k i j := by
  unfold bil
  rw [sI_one _ hi fun m hm hne => by
    rw [hu m]
    by_cases e : Dn D k m
    · rw [bm_done e, Int.mul_zero]
    · rw [hv m hm e hne, Int.zero_mul], hu i, hvi]
theorem pos_mul {a b : Int} (ha : a ≠ 0) (hb : b ≠ 0) : 0 < a * b ↔ (0 < a ↔ 0 < b) := by
  rcases Int.lt_or_gt_of_ne ha with h1 | h1 <;> rcases Int.lt_or_gt_of_ne hb with h2 | h2
  · have := Int.mul_pos_of_neg_of_neg h1 h2; omega
  · have := Int.mul_neg_of_neg_of_pos h1 h2; omega
  · have := Int.mul_neg_of_pos_of_neg h1 h2; omega
  · have := Int.mul_pos h1 h2; omega
theorem BSt.lt (h : BSt n A D k b p q) {j : Nat} (hj : j < n) : ∀ x, x < k + 1 → cn j D x < n := cn_lt hj h.dl
theorem BSt.cinj (h : BSt n A D k b p q) {j : Nat} (hjD : ¬ Dn D k j) : ∀ x y, x < k + 1 → y < k + 1 → cn j D x = cn j D y → x = y := fun x y hx hy e => by
  cases x with
  | zero =>
    cases y with
    | zero => rfl
    | succ y => exact absurd ⟨y, by omega, e.symm⟩ hjD
  | succ x =>
    cases y with
    | zero => exact absurd ⟨x, by omega, e⟩ hjD
    | succ y => exact _root_.congrArg (· + 1) (h.inj x y (by omega) (by omega) e)
theorem BSt.one (h : BSt n A D k b p q) (hA : Sym n A) {j : Nat} (hj : j < n) (hjD : ¬ Dn D k j) (h0 : bm A D k j j ≠ 0) :
    BSt n A (cn j D) (k + 1) (bm A D k j j) (p + if (0 < bm A D k j j ↔ 0 < b) then 1 else 0) (q + if (0 < bm A D k j j ↔ 0 < b) then 0 else 1) := by
  obtain ⟨u, u1, u2, u3⟩ := h.vec hj hjD
  have hb := BSt.gram hj u1 u2 u3
  have hpm := pos_mul h.b0 h0
  have hnz : b * bm A D k j j ≠ 0 := fun e => (Int.mul_eq_zero.1 e).elim h.b0 h0
  have hf := h.fam.add hA u j hj hjD (by rw [u2]; exact h.b0) (Dn (cn j D) (k + 1)) (fun m hm => Dn.cn.2 (Or.inr hm)) (fun m hm hn => u1 m hm (fun e => hn (Dn.cn.2 (Or.inr e))) fun e => hn (Dn.cn.2 (Or.inl e))) (BSt.perp u3)
  rw [hb] at hf
  have hs := h.sg
  have hpq := h.pq
  have hbb : mn A (k + 1) (cn j D) (cn j D) = bm A D k j j := rfl
  generalize bm A D k j j = c at *
  refine ⟨h.lt hj, h.cinj hjD, ?_, h0, ?_, ?_, ?_⟩
  · exact hbb
  · by_cases e : (0 < c ↔ 0 < b)
    · rw [if_pos e, if_pos e]
      rw [if_pos (show 0 < b * c by omega), if_neg (by omega)] at hf
      exact hf
    · rw [if_neg e, if_neg e]
      rw [if_neg (show ¬ 0 < b * c by omega), if_pos (by omega)] at hf
      exact hf
  · by_cases e : (0 < c ↔ 0 < b)
    · rw [if_pos e]; omega
    · rw [if_neg e]; omega
  · by_cases e : (0 < c ↔ 0 < b)
    · rw [if_pos e, if_pos e]; omega
    · rw [if_neg e, if_neg e]; omega
end Go.Proofs.Yteanhbldhaiekaa
namespace Go.Proofs.Yteanhbldhaiekaa

/-- the minors with two indices more -/
def m2 (A : Mx) (D : Nat → Nat) (k i r j s : Nat) : Int := mn A (k + 2) (cn i (cn r D)) (cn j (cn s D))
/-- what remains once the first of two indices is eliminated -/
def tw (A : Mx) (D : Nat → Nat) (k x y i j : Nat) : Int := m2 A D k i x j x + m2 A D k i y j y + m2 A D k i x j y + m2 A D k i y j x
variable {n : Nat} {A : Mx} {D : Nat → Nat} {k : Nat} {b : Int} {p q : Nat}
theorem BSt.dj (h : BSt n A D k b p q) (i r j s : Nat) : b * m2 A D k i r j s = bm A D k r s * bm A D k i j - bm A D k i s * bm A D k r j := by
  have := mn_dj (A := A) (k := k) (R := D) (C := D) (by rw [h.bb]; exact h.b0) i r j s
  rw [h.bb] at this
  exact this
theorem BSt.sym (h : BSt n A D k b p q) (hA : Sym n A) {i j : Nat} (hi : i < n) (hj : j < n) : bm A D k i j = bm A D k j i := mn_tr hA (h.lt hi) (h.lt hj)
theorem BSt.bd (h : BSt n A D k b p q) {i j : Nat} (hi : i < n) (hj : j < n) : (bm A D k i j).natAbs ≤ bndM n n A := mn_bd (h.lt hi) (h.lt hj)
theorem BSt.bd2 (h : BSt n A D k b p q) {i r j s : Nat} (hi : i < n) (hr : r < n) (hj : j < n) (hs : s < n) : (m2 A D k i r j s).natAbs ≤ bndM n n A := mn_bd (cn_lt hi (h.lt hr)) (cn_lt hj (h.lt hs))
theorem BSt.bbd (h : BSt n A D k b p q) : b.natAbs ≤ bndM n n A := by
  rw [← h.bb]
  exact mn_bd h.dl h.dl
theorem BSt.bdt (h : BSt n A D k b p q) {x y i j : Nat} (hx : x < n) (hy : y < n) (hi : i < n) (hj : j < n) : (tw A D k x y i j).natAbs ≤ 4 * bndM n n A := by
  have h1 := h.bd2 hi hx hj hx
  have h2 := h.bd2 hi hy hj hy
  have h3 := h.bd2 hi hx hj hy
  have h4 := h.bd2 hi hy hj hx
  unfold tw
  generalize bndM n n A = B at *
  omega
theorem BSt.twe (h : BSt n A D k b p q) (hA : Sym n A) {x y : Nat} (hx : x < n) (hy : y < n) (h1 : bm A D k x x = 0) (h2 : bm A D k y y = 0) (i j : Nat) :
    b * tw A D k x y i j = 2 * bm A D k x y * bm A D k i j - (bm A D k i x + bm A D k i y) * (bm A D k x j + bm A D k y j) := by
  unfold tw
  rw [Int.mul_add, Int.mul_add, Int.mul_add, h.dj, h.dj, h.dj, h.dj, h1, h2, h.sym hA hy hx]
  generalize bm A D k x y = c
  generalize bm A D k i j = e
  generalize bm A D k i x = f
  generalize bm A D k i y = g
  generalize bm A D k x j = u
  generalize bm A D k y j = v
  grind
/-- behind both: the next state's elements -/
theorem BSt.twn (h : BSt n A D k b p q) (hA : Sym n A) {x y : Nat} (hx : x < n) (hy : y < n) (h1 : bm A D k x x = 0) (h2 : bm A D k y y = 0) (h0 : bm A D k x y ≠ 0) (i j : Nat) :
    2 * bm A D k x y * bm A (cn y (cn x D)) (k + 2) i j = tw A D k x y y y * tw A D k x y i j - tw A D k x y i y * tw A D k x y y j := by
  have e3 := mn_dj (A := A) (k := k + 1) (R := cn x D) (C := cn y D) h0 i y j x
  have hsw : mn A (k + 1 + 2) (cn i (cn y (cn x D))) (cn j (cn x (cn y D))) = -bm A (cn y (cn x D)) (k + 2) i j := by
    unfold bm mn
    rw [← det_cswap (p := 1) (q := 2) (by omega) (by omega) (by omega)]
    refine det_congr fun a c _ _ => ?_
    match c with
    | 0 => rfl
    | 1 => rfl
    | 2 => rfl
    | c + 3 => rw [swn_o (by omega) (by omega)]; rfl
  rw [hsw] at e3
  have m1 := h.dj y x x y
  have m2' := h.dj i x j y
  have m3 := h.dj i x x y
  have m4 := h.dj y x j y
  have t1 := h.twe hA hx hy h1 h2 y y
  have t2 := h.twe hA hx hy h1 h2 i j
  have t3 := h.twe hA hx hy h1 h2 i y
  have t4 := h.twe hA hx hy h1 h2 y j
  rw [h.sym hA hy hx] at m1 t1
  rw [h1, h2] at m1
  rw [h1] at m3
  rw [h2] at m4 t1 t3 t4
  rw [h.sym hA hy hx] at t4
  change bm A D k x y * -_ = m2 A D k y x x y * m2 A D k i x j y - m2 A D k i x x y * m2 A D k y x j y at e3
  have hb0 := h.b0
  generalize bm A (cn y (cn x D)) (k + 2) i j = X at *
  generalize m2 A D k y x x y = n1 at *
  generalize m2 A D k i x j y = n2 at *
  generalize m2 A D k i x x y = n3 at *
  generalize m2 A D k y x j y = n4 at *
  generalize tw A D k x y y y = s1 at *
  generalize tw A D k x y i j = s2 at *
  generalize tw A D k x y i y = s3 at *
  generalize tw A D k x y y j = s4 at *
  generalize bm A D k x y = c at *
  generalize bm A D k i j = e at *
  generalize bm A D k i x = f at *
  generalize bm A D k i y = g at *
  generalize bm A D k x j = u at *
  generalize bm A D k y j = v at *
  have k1 : c * (b * b * X) = c * (-(c * c) * e + c * g * u + c * f * v) := by
    have : c * (b * b * X) = -((b * n1) * (b * n2) - (b * n3) * (b * n4)) := by
      have e4 : c * (b * b * X) = -(b * b * (c * -X)) := by simp only [Int.mul_neg, Int.neg_neg]; ac_rfl
      rw [e4, e3, Int.mul_sub]
      have e5 : b * b * (n1 * n2) = b * n1 * (b * n2) := by ac_rfl
      have e6 : b * b * (n3 * n4) = b * n3 * (b * n4) := by ac_rfl
      rw [e5, e6]
    rw [this, m1, m2', m3, m4]
    grind
  have k2 : b * b * X = -(c * c) * e + c * g * u + c * f * v := Int.eq_of_mul_eq_mul_left h0 k1
  have k3 : b * b * (2 * c * X) = b * b * (s1 * s2 - s3 * s4) := by
    have a1 : b * b * (2 * c * X) = 2 * c * (b * b * X) := by grind
    have a2 : b * b * (s1 * s2 - s3 * s4) = (b * s1) * (b * s2) - (b * s3) * (b * s4) := by grind
    rw [a1, a2, k2, t1, t2, t3, t4]
    grind
  exact Int.eq_of_mul_eq_mul_left (fun e => (Int.mul_eq_zero.1 e).elim hb0 hb0) k3
theorem tw_pivot {x y : Nat} : tw A D k x y y y = bm A (cn x D) (k + 1) y y := by
  have z1 : m2 A D k y y y y = 0 := mn_rep (x := 0) (y := 1) (by omega) (by omega) (by omega) rfl
  have z2 : m2 A D k y x y y = 0 := mn_crep (x := 0) (y := 1) (by omega) (by omega) (by omega) rfl
  have z3 : m2 A D k y y y x = 0 := mn_rep (x := 0) (y := 1) (by omega) (by omega) (by omega) rfl
  unfold tw
  rw [z1, z2, z3, Int.add_zero, Int.add_zero, Int.add_zero]
  rfl
theorem bil_add_l {v w x : Nat → Int} (t : Int) : bil n A (fun m => v m + t * w m) x = bil n A v x + t * bil n A w x := by
  unfold bil
  rw [← sI_mul, ← sI_add]
  exact sI_congr fun m _ => by rw [Int.add_mul, Int.mul_assoc]
theorem bil_add_r (hA : Sym n A) {v w x : Nat → Int} (t : Int) : bil n A x (fun m => v m + t * w m) = bil n A x v + t * bil n A x w := by
  rw [bil_comm hA, bil_add_l, bil_comm hA, bil_comm hA w]
theorem BSt.two (h : BSt n A D k b p q) (hA : Sym n A) {x y : Nat} (hx : x < n) (hy : y < n) (hxD : ¬ Dn D k x) (hyD : ¬ Dn D k y) (h1 : bm A D k x x = 0) (h2 : bm A D k y y = 0) (h0 : bm A D k x y ≠ 0) :
    BSt n A (cn y (cn x D)) (k + 2) (tw A D k x y y y) (p + 1) (q + 1) ∧ b * tw A D k x y y y = -(bm A D k x y * bm A D k x y) := by
  have hne : x ≠ y := fun e => h0 (by rw [← e]; exact h1)
  obtain ⟨u, u1, u2, u3⟩ := h.vec hx hxD
  obtain ⟨v, v1, v2, v3⟩ := h.vec hy hyD
  have guu := BSt.gram hx u1 u2 u3
  have gvv := BSt.gram hy v1 v2 v3
  have guv := BSt.gram hx u1 u2 v3
  have gvu := BSt.gram hy v1 v2 u3
  rw [h.sym hA hy hx] at gvu
  rw [h1, Int.mul_zero] at guu
  rw [h2, Int.mul_zero] at gvv
  have ux : u y = 0 := u1 y hy hyD (Ne.symm hne)
  have vx : v x = 0 := v1 x hx hxD hne
  have tb : b * tw A D k x y y y = -(bm A D k x y * bm A D k x y) := by
    have := h.twe hA hx hy h1 h2 y y
    rw [h2, h.sym hA hy hx] at this
    rw [this]
    grind
  have bc : b * bm A D k x y ≠ 0 := fun e => (Int.mul_eq_zero.1 e).elim h.b0 h0
  obtain ⟨V, d, hF, hs, hp, hq⟩ := h.fam
  have ss : bil n A (fun m => u m + 1 * v m) (fun m => u m + 1 * v m) = 2 * (b * bm A D k x y) := by
    rw [bil_add_l, bil_add_r hA, bil_add_r hA, guu, gvv, guv, gvu]; omega
  have dd : bil n A (fun m => u m + -1 * v m) (fun m => u m + -1 * v m) = -(2 * (b * bm A D k x y)) := by
    rw [bil_add_l, bil_add_r hA, bil_add_r hA, guu, gvv, guv, gvu]; omega
  have sd : bil n A (fun m => u m + 1 * v m) (fun m => u m + -1 * v m) = 0 := by
    rw [bil_add_l, bil_add_r hA, bil_add_r hA, guu, gvv, guv, gvu]; omega
  have pu : ∀ (t : Int) (z : Nat → Int), (∀ m, m < n → ¬ Dn D k m → z m = 0) → bil n A z (fun m => u m + t * v m) = 0 := fun t z hz => by
    rw [bil_add_r hA, BSt.perp u3 z hz, BSt.perp v3 z hz]; omega
  have F1 := hF.add (fun m => u m + 1 * v m) 1 0 x x hx hx (fun z hz => by rw [hs z x hz hx hxD]; rfl) (by rw [u2, vx]; have := h.b0; omega) (fun z hz => pu 1 _ fun m hm hSm => hs z m hz hm hSm)
    (fun z hz => by rw [bil_comm hA]; exact pu 1 _ fun m hm hSm => hs z m hz hm hSm)
  have F2 := F1.add (fun m => u m + -1 * v m) 1 (-1) x y hx hy (fun z hz => by
      by_cases e : z = k
      · subst e; rw [vup_same, u2, v2, ux, vx]; omega
      · rw [vup_lt V _ (by omega), hs z x (by omega) hx hxD, hs z y (by omega) hy hyD]; rfl) (by rw [u2, v2, ux, vx]; have := h.b0; omega)
    (fun z hz => by
      by_cases e : z = k
      · subst e; rw [vup_same]; exact sd
      · rw [vup_lt V _ (by omega)]; exact pu (-1) _ fun m hm hSm => hs z m (by omega) hm hSm)
    (fun z hz => by
      by_cases e : z = k
      · subst e; rw [vup_same, bil_comm hA]; exact sd
      · rw [vup_lt V _ (by omega), bil_comm hA]; exact pu (-1) _ fun m hm hSm => hs z m (by omega) hm hSm)
  rw [ss, dd] at F2
  have hDn : ∀ m, ¬ Dn (cn y (cn x D)) (k + 2) m → ¬ Dn D k m ∧ m ≠ x ∧ m ≠ y := fun m hm => ⟨fun e => hm (Dn.cn.2 (Or.inr (Dn.cn.2 (Or.inr e)))), fun e => hm (Dn.cn.2 (Or.inr (Dn.cn.2 (Or.inl e)))), fun e => hm (Dn.cn.2 (Or.inl e))⟩
  have hyx : ¬ Dn (cn x D) (k + 1) y := fun e => (Dn.cn.1 e).elim (fun e => hne e.symm) hyD
  have hsg := h.sg
  have hpq := h.pq
  have tnz : tw A D k x y y y ≠ 0 := fun e => by
    rw [e, Int.mul_zero] at tb
    have : bm A D k x y * bm A D k x y = 0 := by omega
    exact (Int.mul_eq_zero.1 this).elim h0 h0
  refine ⟨⟨cn_lt hy (h.lt hx), ?_, tw_pivot.symm, tnz, ⟨_, _, F2, fun z m hz hm hSm => ?_, ?_, ?_⟩, ?_, by omega⟩, tb⟩
  · intro a c ha hc e
    have ci := h.cinj hxD
    cases a with
    | zero =>
      cases c with
      | zero => rfl
      | succ c => exact absurd ⟨c, by omega, e.symm⟩ hyx
    | succ a =>
      cases c with
      | zero => exact absurd ⟨a, by omega, e⟩ hyx
      | succ c => exact _root_.congrArg (· + 1) (ci a c (by omega) (by omega) e)
  · obtain ⟨d1, d2, d3⟩ := hDn m hSm
    by_cases e : z = k + 1
    · subst e
      rw [vup_same, u1 m hm d1 d2, v1 m hm d1 d3]; rfl
    · rw [vup_lt _ _ (show z < k + 1 by omega)]
      by_cases e : z = k
      · subst e
        rw [vup_same, u1 m hm d1 d2, v1 m hm d1 d3]; rfl
      · rw [vup_lt _ _ (show z < k by omega)]
        exact hs z m (by omega) hm d1
  · rw [cB_up (k + 1) _ _ (fun z => decide (0 < z)), cB_up k d _ (fun z => decide (0 < z)), hp]
    by_cases hc : 0 < b * bm A D k x y
    · rw [if_pos (by simp; omega), if_neg (by simp; omega)]
    · rw [if_neg (by simp; omega), if_pos (by simp; omega)]
  · rw [cB_up (k + 1) _ _ (fun z => decide (z < 0)), cB_up k d _ (fun z => decide (z < 0)), hq]
    by_cases hc : 0 < b * bm A D k x y
    · rw [if_neg (by simp; omega), if_pos (by simp; omega)]
    · rw [if_pos (by simp; omega), if_neg (by simp; omega)]
  · have hneg : b * tw A D k x y y y < 0 := by
      rw [tb]
      have := mulself (bm A D k x y)
      have hz : bm A D k x y * bm A D k x y ≠ 0 := fun e => (Int.mul_eq_zero.1 e).elim h0 h0
      omega
    have := pos_mul h.b0 tnz
    omega
end Go.Proofs.Yteanhbldhaiekaa
namespace Go.Proofs.Yteanhbldhaiekaa

variable {n : Nat} {A : Mx} {D : Nat → Nat} {k : Nat} {b : Int} {p q : Nat}
theorem Fam.le {V : Mx} {d : Nat → Int} (h : Fam n A V d k) : k ≤ n := Classical.byContradiction fun hlt => by
  obtain ⟨c, ⟨x, hx, hc⟩, hes⟩ := dep_len n ((List.range n).map fun m x => V x m) k (by simp) (by omega)
  exact hc (h.ind c (fun m hm => by
    have := hes _ (List.mem_map_of_mem (List.mem_range.2 hm))
    rw [← this]
    exact sI_congr fun x _ => Int.mul_comm _ _) x hx)
theorem cB_one (c : Nat) : ∀ (n : Nat) (f : Nat → Bool), cB n f ≤ cB n (fun m => f m && decide (m ≠ c)) + 1 ∧ (n ≤ c → cB n f = cB n (fun m => f m && decide (m ≠ c)))
  | 0, _ => ⟨Nat.zero_le _, fun _ => rfl⟩
  | n + 1, f => by
    obtain ⟨h1, h2⟩ := cB_one c n f
    rw [cB, cB]
    by_cases e : n = c
    · subst e
      have := h2 (Nat.le_refl _)
      refine ⟨?_, fun h => by omega⟩
      rw [← this, decide_eq_false (by omega), Bool.and_false]
      split <;> omega
    · have hd : decide (n ≠ c) = true := decide_eq_true e
      refine ⟨?_, fun h => ?_⟩
      · rw [hd, Bool.and_true]; omega
      · rw [hd, Bool.and_true, h2 (by omega)]
theorem cB_img : ∀ (k : Nat) (D : Nat → Nat) (n : Nat) (f : Nat → Bool), (∀ m, m < n → f m = true → Dn D k m) → cB n f ≤ k
  | 0, D, n, f, h => by
    rw [cB_congr (g := fun _ => false) fun m hm => by
      cases e : f m
      · rfl
      · obtain ⟨l, hl, -⟩ := h m hm e; omega]
    have : ∀ n, cB n (fun _ => false) = 0 := fun n => by
      induction n with
      | zero => rfl
      | succ n ih => rw [cB, ih]; rfl
    rw [this]
    exact Nat.le_refl _
  | k + 1, D, n, f, h => by
    have h1 := (cB_one (D k) n f).1
    have h2 := cB_img k D n (fun m => f m && decide (m ≠ D k)) fun m hm e => by
      simp only [Bool.and_eq_true, decide_eq_true_eq] at e
      obtain ⟨l, hl, hd⟩ := h m hm e.1
      refine ⟨l, ?_, hd⟩
      by_cases el : l = k
      · subst el; exact absurd hd.symm e.2
      · omega
    omega
theorem FamS.mono {S S' : Nat → Prop} (h : FamS n A S k p q) (hS : ∀ m, S m → S' m) : FamS n A S' k p q := by
  obtain ⟨V, d, h1, h2, h3, h4⟩ := h
  exact ⟨V, d, h1, fun x m hx hm hn => h2 x m hx hm fun h => hn (hS m h), h3, h4⟩
theorem BSt.inr (h : BSt n A D k b p q) (hA : Sym n A) (dn : Nat → Bool) (hd : ∀ i, i < n → (dn i = true ↔ Dn D k i)) (hz : ∀ i j, i < n → j < n → ¬ Dn D k i → ¬ Dn D k j → bm A D k i j = 0) : Inr n A p q := by
  have hall : ∀ i j, i < n → j < n → ¬ Dn D k j → bm A D k i j = 0 := fun i j hi hj hjD => by
    by_cases e : Dn D k i
    · exact bm_done e
    · exact hz i j hi hj e hjD
  have key : ∀ t, t ≤ n → FamS n A (fun m => Dn D k m ∨ m < t) (k + cB t fun m => !dn m) p q := fun t => by
    induction t with
    | zero => exact fun _ => h.fam.mono fun m hm => Or.inl hm
    | succ t ih =>
      intro ht
      have IH := ih (by omega)
      by_cases e : dn t = true
      · rw [cB, e, Bool.not_true, if_neg (by decide), Nat.add_zero]
        exact IH.mono fun m hm => by rcases hm with hm | hm; exact Or.inl hm; exact Or.inr (by omega)
      · have ef : dn t = false := by cases h : dn t; rfl; exact absurd h e
        have htD : ¬ Dn D k t := fun h => e ((hd t (by omega)).2 h)
        obtain ⟨u, u1, u2, u3⟩ := h.vec (show t < n by omega) htD
        have hz0 : bil n A u u = 0 := by
          rw [BSt.gram (show t < n by omega) u1 u2 u3, hall t t (by omega) (by omega) htD, Int.mul_zero]
        have := IH.add hA u t (by omega) (fun h => by rcases h with h | h; exact htD h; omega) (by rw [u2]; exact h.b0) (fun m => Dn D k m ∨ m < t + 1) (fun m hm => by rcases hm with hm | hm; exact Or.inl hm; exact Or.inr (by omega))
          (fun m hm hn => u1 m hm (fun h => hn (Or.inl h)) fun h => hn (Or.inr (by omega))) (fun x _ => sI_all0 fun m hm => by rw [u3 m, hall m t hm (by omega) htD, Int.mul_zero])
        rw [hz0, if_neg (by decide)] at this
        rw [cB, ef, Bool.not_false, if_pos rfl, ← Nat.add_assoc]
        exact this
  obtain ⟨V, d, h1, -, h3, h4⟩ := key n (Nat.le_refl _)
  have hle := h1.le
  have hc := cB_not n dn
  have hi := cB_img k D n dn fun m hm e => (hd m hm).1 e
  have hkn : k + cB n (fun m => !dn m) = n := by omega
  rw [hkn] at h1 h3 h4
  exact ⟨V, d, h1, h3, h4⟩
theorem BSt.kn (h : BSt n A D k b p q) : k ≤ n := by
  obtain ⟨V, d, h1, -⟩ := h.fam
  exact h1.le
theorem BSt.rk (h : BSt n A D k b p q) (hz : ∀ i j, i < n → j < n → ¬ Dn D k i → ¬ Dn D k j → bm A D k i j = 0) : RkP n n A k := by
  have hall : ∀ i j, i < n → j < n → bm A D k i j = 0 := fun i j hi hj => by
    by_cases e : Dn D k i
    · exact bm_done e
    · by_cases e2 : Dn D k j
      · obtain ⟨l, hl, rfl⟩ := e2
        exact mn_crep (x := 0) (y := l + 1) (by omega) (by omega) (by omega) rfl
      · exact hz i j hi hj e e2
  refine ⟨h.kn, h.kn, fun is js hi hj => ?_, D, D, h.dl, h.dl, by have := h.b0; rw [← h.bb] at this; exact this⟩
  refine Int.zero_dvd.2 (Classical.byContradiction fun hd => ?_)
  have hg : ∀ j, ∃ g : Nat → Int, j < n → ∀ i, i < n → b * A i j = sI k fun l => g l * A i (D l) := fun j => by
    obtain ⟨g, hg⟩ := mn_row A k D D j
    refine ⟨fun l => -g l, fun hj i hi => ?_⟩
    have e := hg i
    rw [h.bb] at e
    have e2 := hall i j hi hj
    unfold bm at e2
    rw [e2] at e
    rw [sI_congr (g := fun l => -(g l * A i (D l))) fun l _ => Int.neg_mul _ _, sI_neg]
    omega
  let G : Nat → Nat → Int := fun c => Classical.choose (hg (js c))
  have hG : ∀ c, c < k + 1 → ∀ i, i < n → b * A i (js c) = sI k fun l => G c l * A i (D l) := fun c hc i hi => Classical.choose_spec (hg (js c)) (hj c hc) i hi
  obtain ⟨y, ⟨c, hc, hy⟩, hes⟩ := dep_len k ((List.range k).map fun l c => G c l) (k + 1) (by simp) (by omega)
  have hker := det_ker (c := y) hd fun a ha => by
    have e : b * (sI (k + 1) fun c => A (is a) (js c) * y c) = 0 := by
      rw [← sI_mul, sI_congr (g := fun c => sI k fun l => A (is a) (D l) * (G c l * y c)) fun c hc => by
        rw [← Int.mul_assoc, hG c hc (is a) (hi a ha), Int.mul_comm, ← sI_mul]
        exact sI_congr fun l _ => by rw [Int.mul_comm (y c), Int.mul_assoc, Int.mul_comm (A (is a) (D l)), ← Int.mul_assoc, Int.mul_comm (G c l * y c)] <;> grind, sI_swap]
      exact sI_all0 fun l hl => by
        rw [sI_mul]
        have := hes _ (List.mem_map_of_mem (List.mem_range.2 hl))
        rw [this, Int.mul_zero]
    rcases Int.mul_eq_zero.1 e with e | e
    · exact absurd e h.b0
    · exact e
  exact hy (hker c hc)
/-- the rows and columns in another order -/
theorem det_perm (A : Mx) (n : Nat) : ∀ (m : Nat) (D : Nat → Nat), m ≤ n → (∀ l, l < n → D l < n) → (∀ x y, x < n → y < n → D x = D y → x = y) → (∀ l, m ≤ l → l < n → D l = l) → mn A n D D = det n A
  | 0, D, _, _, _, hf => det_congr fun i j hi hj => by rw [hf i (Nat.zero_le _) hi, hf j (Nat.zero_le _) hj]
  | m + 1, D, hm, hl, hi, hf => by
    have hlt : ∀ l, l < m + 1 → D l < m + 1 := fun l hlm => Classical.byContradiction fun h => by
      have e1 := hf (D l) (by omega) (hl l (by omega))
      have := hi (D l) l (hl l (by omega)) (by omega) e1
      omega
    obtain ⟨c, hc, hcm⟩ := pigeon (k := m) (js := D) fun a b ha hb e => hi a b (by omega) (by omega) e
    have hD : D c = m := by have := hlt c hc; omega
    by_cases e : c = m
    · subst e
      exact det_perm A n c D (by omega) hl hi fun l h1 h2 => by
        by_cases e : l = c
        · rw [e]; exact hD
        · exact hf l (by omega) h2
    · have hs : mn A n (fun x => D (swn c m x)) (fun x => D (swn c m x)) = mn A n D D := by
        unfold mn
        have r1 := det_rswap (n := n) (A := fun x y => A (D x) (D (swn c m y))) (p := c) (q := m) (by omega) (by omega) e
        have r2 := det_cswap (n := n) (A := fun x y => A (D x) (D y)) (p := c) (q := m) (by omega) (by omega) e
        rw [r1, r2, Int.neg_neg]
      rw [← hs]
      have hsw : ∀ x, x < n → swn c m x < n := fun x hx => swn_lt (by omega) (by omega) hx
      refine det_perm A n m _ (by omega) (fun l h => hl _ (hsw l h)) (fun x y hx hy e => ?_) fun l h1 h2 => ?_
      · have := hi _ _ (hsw x hx) (hsw y hy) e
        rw [← swn_swn c m x, this, swn_swn]
      · by_cases e2 : l = m
        · rw [e2, swn_r]; exact hD
        · rw [swn_o (by omega) e2]; exact hf l (by omega) h2
theorem BSt.dets (h : BSt n A D k b p q) (hk : k = n) : 0 < det n A ↔ q % 2 = 0 := by
  subst hk
  rw [← det_perm A k k D (Nat.le_refl _) h.dl h.inj (fun l h1 h2 => by omega), h.bb]
  exact h.sg
theorem BSt.detn (h : BSt n A D k b p q) (hk : k = n) : det n A ≠ 0 := by
  subst hk
  rw [← det_perm A k k D (Nat.le_refl _) h.dl h.inj (fun l h1 h2 => by omega), h.bb]
  exact h.b0
end Go.Proofs.Yteanhbldhaiekaa
