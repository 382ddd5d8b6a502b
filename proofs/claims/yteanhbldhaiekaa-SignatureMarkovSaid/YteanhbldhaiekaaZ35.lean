/-
  Signatures of quadratic functions; the form of a closed braid on letters and generators. No program here.
  The form of a closed braid does not change its signature under the steps of Markov's theorem. No program here.
-/
import Derived.Test.YteanhbldhaiekaaZ34
namespace Go.Proofs.Yteanhbldhaiekaa

/-! ### quadratic functions -/
def vS (n : Nat) (c : Nat → Int) (V : Nat → Nat → Int) : Nat → Int := fun i => sI n fun x => c x * V x i
/-- the function depends on the first n numbers -/
def QF (n : Nat) (q : (Nat → Int) → Int) : Prop := ∀ v w : Nat → Int, (∀ i, i < n → v i = w i) → q v = q w
/-- a basis in which the function is a sum of p positive and m negative squares -/
def SgF (n : Nat) (q : (Nat → Int) → Int) (p m : Nat) : Prop := ∃ (V : Nat → Nat → Int) (d : Nat → Int),
  (∀ c : Nat → Int, (∀ i, i < n → vS n c V i = 0) → ∀ x, x < n → c x = 0) ∧ (∀ c, q (vS n c V) = sI n fun x => c x * c x * d x) ∧ cB n (fun x => decide (0 < d x)) = p ∧ cB n (fun x => decide (d x < 0)) = m
theorem sgf_of_inr {n : Nat} {A : Mx} {p m : Nat} (h : Inr n A p m) : SgF n (fun v => bil n A v v) p m := by
  obtain ⟨V, d, hV, h1, h2⟩ := h
  exact ⟨V, d, hV.ind, fun c => hV.sq c, h1, h2⟩
theorem SgF.le {n : Nat} {q : (Nat → Int) → Int} (hq : QF n q) {p m p' m' : Nat} (h : SgF n q p m) (h' : SgF n q p' m') : p ≤ p' := by
  obtain ⟨V, d, vi, vs, rfl, -⟩ := h
  obtain ⟨W, d', wi, ws, rfl, -⟩ := h'
  refine Classical.byContradiction fun hlt => ?_
  have hnot := cB_not n (fun x => decide (0 < d x))
  obtain ⟨c, ⟨x, hx, hc⟩, hes⟩ := dep_len _ ((List.range n).map (fun m x => if x < n then V x m else -W (x - n) m) ++ (((List.range n).filter (fun x => !decide (0 < d x))).map (fun y x => if x = y then 1 else 0) ++
      ((List.range n).filter (fun x => decide (0 < d' x))).map (fun y x => if x = n + y then 1 else 0))) (n + n) rfl (by
    rw [List.length_append, List.length_append, List.length_map, List.length_map, List.length_map, List.length_range, cB_filter, cB_filter]
    omega)
  have e1 : ∀ m, m < n → vS n c V m = vS n (fun y => c (n + y)) W m := fun m hm => by
    have := hes _ (List.mem_append_left _ (List.mem_map_of_mem (List.mem_range.2 hm)))
    rw [sI_len] at this
    rw [sI_congr (g := fun x => c x * V x m) fun x hx => by rw [if_pos hx, Int.mul_comm], sI_congr (n := n) (f := fun k => _ * c (n + k)) (g := fun y => -(c (n + y) * W y m)) fun y hy => by
      rw [if_neg (by omega), show n + y - n = y by omega, Int.neg_mul, Int.mul_comm], sI_neg] at this
    show (sI n fun x => c x * V x m) = sI n fun y => c (n + y) * W y m
    omega
  have e2 : ∀ y, y < n → ¬ 0 < d y → c y = 0 := fun y hy hd => by
    have := hes _ (List.mem_append_right _ (List.mem_append_left _ (List.mem_map_of_mem (List.mem_filter.2 ⟨List.mem_range.2 hy, by simpa using hd⟩))))
    rw [sI_one (k := y) _ (by omega) fun j _ hne => by rw [if_neg hne, Int.zero_mul], if_pos rfl] at this
    omega
  have e3 : ∀ y, y < n → 0 < d' y → c (n + y) = 0 := fun y hy hd => by
    have := hes _ (List.mem_append_right _ (List.mem_append_right _ (List.mem_map_of_mem (List.mem_filter.2 ⟨List.mem_range.2 hy, by simpa using hd⟩))))
    rw [sI_one (k := n + y) _ (by omega) fun j _ hne => by rw [if_neg hne, Int.zero_mul], if_pos rfl] at this
    omega
  have s1 := vs c
  have s2 := ws fun y => c (n + y)
  rw [hq _ _ e1, s2] at s1
  have nn : ∀ x, x < n → 0 ≤ c x * c x * d x := fun x hx => by
    by_cases hd : 0 < d x
    · exact Int.mul_nonneg (mulself _) (by omega)
    · rw [e2 x hx hd]; simp
  have np : sI n (fun y => c (n + y) * c (n + y) * d' y) ≤ 0 := by
    have : 0 ≤ sI n (fun y => -(c (n + y) * c (n + y) * d' y)) := sI_nn fun y hy => by
      by_cases hd : 0 < d' y
      · rw [e3 y hy hd]; simp
      · have := Int.mul_nonneg (mulself (c (n + y))) (show 0 ≤ -d' y by omega)
        rw [Int.mul_neg] at this
        exact this
    rw [sI_neg] at this
    omega
  have c0 : ∀ x, x < n → c x = 0 := fun x hx => by
    by_cases hd : 0 < d x
    · have := sI_n0 _ _ nn (by omega) x hx
      rcases Int.mul_eq_zero.1 this with h | h
      · exact (Int.mul_eq_zero.1 h).elim id id
      · omega
    · exact e2 x hx hd
  have c1 := wi (fun y => c (n + y)) fun m hm => by
    rw [← e1 m hm]
    exact sI_all0 fun x hx => by rw [c0 x hx, Int.zero_mul]
  by_cases hxn : x < n
  · exact hc (c0 x hxn)
  · have := c1 (x - n) (by omega)
    rw [show n + (x - n) = x by omega] at this
    exact hc this
theorem SgF.neg {n : Nat} {q : (Nat → Int) → Int} {p m : Nat} (h : SgF n q p m) : SgF n (fun v => -q v) m p := by
  obtain ⟨V, d, vi, vs, rfl, rfl⟩ := h
  refine ⟨V, fun x => -d x, vi, fun c => ?_, cB_congr fun x _ => decide_eq_decide.2 (by show 0 < -d x ↔ _; omega), cB_congr fun x _ => decide_eq_decide.2 (by show -d x < 0 ↔ _; omega)⟩
  show -q _ = _
  rw [vs c, ← sI_neg]
  exact sI_congr fun x _ => by rw [Int.mul_neg]
theorem SgF.uniq {n : Nat} {q : (Nat → Int) → Int} (hq : QF n q) {p m p' m' : Nat} (h : SgF n q p m) (h' : SgF n q p' m') : p = p' ∧ m = m' := by
  have hn : QF n fun v => -q v := fun v w e => by show -q v = -q w; rw [hq v w e]
  exact ⟨Nat.le_antisymm (h.le hq h') (h'.le hq h), Nat.le_antisymm (h.neg.le hn h'.neg) (h'.neg.le hn h.neg)⟩
theorem cB_yes : ∀ m, cB m (fun _ => true) = m
  | 0 => rfl
  | m + 1 => by rw [cB, cB_yes m, if_pos rfl]
theorem cB_no : ∀ m, cB m (fun _ => false) = 0
  | 0 => rfl
  | m + 1 => by rw [cB, cB_no m, if_neg (by decide)]
/-- linear -/
def LinF (φ : (Nat → Int) → Nat → Int) : Prop := (∀ v w i, φ (fun j => v j + w j) i = φ v i + φ w i) ∧ ∀ (t : Int) v i, φ (fun j => t * v j) i = t * φ v i
theorem LinF.sum {φ : (Nat → Int) → Nat → Int} (h : LinF φ) : ∀ (n : Nat) (c : Nat → Int) (V : Nat → Nat → Int) (i : Nat), φ (vS n c V) i = vS n c (fun x => φ (V x)) i
  | 0, c, V, i => by
    have := h.2 0 (vS 0 c V) i
    rw [Int.zero_mul] at this
    rw [show vS 0 c V = fun j => 0 * vS 0 c V j from funext fun j => by rw [Int.zero_mul]; rfl]
    exact this
  | n + 1, c, V, i => by
    have e : vS (n + 1) c V = fun j => vS n c V j + (fun k => c n * V n k) j := rfl
    rw [e, h.1, h.sum n c V i, h.2]
    rfl
/-- with m hyperbolic planes -/
theorem SgF.hyp {n m : Nat} {q q' : (Nat → Int) → Int} {p r : Nat} (h : SgF n q p r) {φ : (Nat → Int) → Nat → Int} (hl : LinF φ) (hi : ∀ v : Nat → Int, (∀ i, i < n + 2 * m → φ v i = 0) → ∀ i, i < n + 2 * m → v i = 0)
    (hq : QF n q) (hq' : QF (n + 2 * m) q') {k : Int} (hk : 0 < k) (hv : ∀ v, q' (φ v) = q v + k * sI m fun g => v (n + g) * v (n + m + g)) : SgF (n + 2 * m) q' (p + m) (r + m) := by
  obtain ⟨V, d, vi, vs, rfl, rfl⟩ := h
  let U : Nat → Nat → Int := fun x i => if x < n then (if i < n then V x i else 0) else if x < n + m then (if i = x ∨ i = x + m then 1 else 0) else if i = x then -1 else if i + m = x then 1 else 0
  have hU : ∀ c, (∀ i, i < n → vS (n + 2 * m) c U i = vS n c V i) ∧ (∀ g, g < m → vS (n + 2 * m) c U (n + g) = c (n + g) + c (n + m + g)) ∧ ∀ g, g < m → vS (n + 2 * m) c U (n + m + g) = c (n + g) - c (n + m + g) := fun c => by
    have parts : ∀ i, vS (n + 2 * m) c U i = (sI n fun x => c x * U x i) + (sI m fun g => c (n + g) * U (n + g) i) + sI m fun g => c (n + m + g) * U (n + m + g) i := fun i => by
      unfold vS
      rw [show n + 2 * m = n + m + m by omega, sI_len, sI_len]
    have u1 : ∀ x i, x < n → U x i = if i < n then V x i else 0 := fun x i hx => if_pos hx
    have u2 : ∀ g i, g < m → U (n + g) i = if i = n + g ∨ i = n + g + m then 1 else 0 := fun g i hg => by show (if _ then _ else if _ then _ else _) = _; rw [if_neg (by omega), if_pos (by omega)]
    have u3 : ∀ g i, U (n + m + g) i = if i = n + m + g then -1 else if i + m = n + m + g then 1 else 0 := fun g i => by show (if _ then _ else if _ then _ else _) = _; rw [if_neg (by omega), if_neg (by omega)]
    refine ⟨fun i hi => ?_, fun g hg => ?_, fun g hg => ?_⟩
    · rw [parts, sI_all0 (n := m) (f := fun g => c (n + g) * U (n + g) i) fun g hg => by rw [u2 g i hg, if_neg (by omega), Int.mul_zero], sI_all0 (n := m) fun g hg => by rw [u3, if_neg (by omega), if_neg (by omega), Int.mul_zero], Int.add_zero, Int.add_zero]
      exact sI_congr fun x hx => by rw [u1 x i hx, if_pos hi]
    · rw [parts, sI_all0 (n := n) fun x hx => by rw [u1 x _ hx, if_neg (by omega), Int.mul_zero], Int.zero_add, sI_one (k := g) (fun g' => c (n + g') * U (n + g') (n + g)) hg fun j hj hne => by rw [u2 j _ hj, if_neg (by omega), Int.mul_zero],
        sI_one (k := g) _ hg fun j hj hne => by rw [u3, if_neg (by omega), if_neg (by omega), Int.mul_zero], u2 g _ hg, if_pos (.inl rfl), u3, if_neg (by omega), if_pos (by omega), Int.mul_one, Int.mul_one]
    · rw [parts, sI_all0 (n := n) fun x hx => by rw [u1 x _ hx, if_neg (by omega), Int.mul_zero], Int.zero_add, sI_one (k := g) (fun g' => c (n + g') * U (n + g') (n + m + g)) hg fun j hj hne => by rw [u2 j _ hj, if_neg (by omega), Int.mul_zero],
        sI_one (k := g) _ hg fun j hj hne => by rw [u3, if_neg (by omega), if_neg (by omega), Int.mul_zero], u2 g _ hg, if_pos (.inr (by omega)), u3, if_pos rfl, Int.mul_one]
      omega
  let D : Nat → Int := fun x => if x < n then d x else if x < n + m then k else -k
  refine ⟨fun x => φ (U x), D, fun c hc => ?_, fun c => ?_, ?_, ?_⟩
  · have hz := hi (vS (n + 2 * m) c U) fun i hi' => by rw [hl.sum]; exact hc i hi'
    obtain ⟨a1, a2, a3⟩ := hU c
    have z1 := vi c fun i hi' => by rw [← a1 i hi']; exact hz i (by omega)
    intro x hx
    by_cases h1 : x < n
    · exact z1 x h1
    · by_cases h2 : x < n + m
      · have b2 := a2 (x - n) (by omega)
        have b3 := a3 (x - n) (by omega)
        rw [hz _ (by omega), show n + (x - n) = x by omega] at b2
        rw [hz _ (by omega), show n + (x - n) = x by omega] at b3
        omega
      · have b2 := a2 (x - n - m) (by omega)
        have b3 := a3 (x - n - m) (by omega)
        rw [hz _ (by omega), show n + m + (x - n - m) = x by omega] at b2
        rw [hz _ (by omega), show n + m + (x - n - m) = x by omega] at b3
        omega
  · rw [hq' (vS (n + 2 * m) c fun x => φ (U x)) (φ (vS (n + 2 * m) c U)) fun i _ => (hl.sum _ c U i).symm, hv]
    obtain ⟨a1, a2, a3⟩ := hU c
    rw [hq _ _ a1, vs c, show n + 2 * m = n + m + m by omega, sI_len, sI_len, ← sI_mul]
    have d1 : (sI n fun x => c x * c x * D x) = sI n fun x => c x * c x * d x := sI_congr fun x hx => by rw [show D x = d x from if_pos hx]
    rw [d1, Int.add_assoc, ← sI_add]
    congr 1
    refine sI_congr fun g hg => ?_
    rw [show D (n + g) = k by show (if _ then _ else if _ then _ else _) = _; rw [if_neg (by omega), if_pos (by omega)], show D (n + m + g) = -k by show (if _ then _ else if _ then _ else _) = _; rw [if_neg (by omega), if_neg (by omega)]]
    have b2 := a2 g hg
    have b3 := a3 g hg
    rw [show n + 2 * m = n + m + m by omega] at b2 b3
    rw [b2, b3]
    grind
  · rw [show n + 2 * m = n + m + m by omega, cB_add, cB_add, cB_congr (n := n) (g := fun x => decide (0 < d x)) fun x hx => by rw [show D x = d x from if_pos hx],
      cB_congr (n := m) (f := fun g => decide (0 < D (n + g))) (g := fun _ => true) fun g hg => by rw [show D (n + g) = k by show (if _ then _ else if _ then _ else _) = _; rw [if_neg (by omega), if_pos (by omega)]]; exact decide_eq_true hk,
      cB_congr (n := m) (f := fun g => decide (0 < D (n + m + g))) (g := fun _ => false) fun g hg => by rw [show D (n + m + g) = -k by show (if _ then _ else if _ then _ else _) = _; rw [if_neg (by omega), if_neg (by omega)]]; exact decide_eq_false (by omega), cB_yes, cB_no]
    omega
  · rw [show n + 2 * m = n + m + m by omega, cB_add, cB_add, cB_congr (n := n) (g := fun x => decide (d x < 0)) fun x hx => by rw [show D x = d x from if_pos hx],
      cB_congr (n := m) (f := fun g => decide (D (n + g) < 0)) (g := fun _ => false) fun g hg => by rw [show D (n + g) = k by show (if _ then _ else if _ then _ else _) = _; rw [if_neg (by omega), if_pos (by omega)]]; exact decide_eq_false (by omega),
      cB_congr (n := m) (f := fun g => decide (D (n + m + g) < 0)) (g := fun _ => true) fun g hg => by rw [show D (n + m + g) = -k by show (if _ then _ else if _ then _ else _) = _; rw [if_neg (by omega), if_neg (by omega)]]; exact decide_eq_true (by omega), cB_yes, cB_no]
    omega
/-- the same after a change of the basis -/
theorem SgF.lin {n : Nat} {q q' : (Nat → Int) → Int} {p r : Nat} (h : SgF n q p r) {φ : (Nat → Int) → Nat → Int} (hl : LinF φ) (hi : ∀ v : Nat → Int, (∀ i, i < n → φ v i = 0) → ∀ i, i < n → v i = 0)
    (hq : QF n q) (hq' : QF n q') (hv : ∀ v, q' (φ v) = q v) : SgF n q' p r :=
  h.hyp (m := 0) hl hi hq hq' (k := 1) (by decide) fun v => by rw [hv]; show _ = _ + 1 * 0; omega
end Go.Proofs.Yteanhbldhaiekaa
namespace Go.Proofs.Yteanhbldhaiekaa

/-- the sign of a letter -/
def sgl (z : Int) : Int := if z < 0 then -1 else 1
theorem sgl_two (z : Int) : sgl z = 1 ∨ sgl z = -1 := by unfold sgl; split; exact .inr rfl; exact .inl rfl
theorem sgl_neg {z : Int} (h : z ≠ 0) : sgl (-z) = -sgl z := by unfold sgl; split <;> split <;> omega
def upL (l : Nat → Int) (h : Nat) (c : Int) : Nat → Int := fun j => if j = h then l j + c else l j
theorem upL_comm (l : Nat → Int) (h k : Nat) (c d : Int) : upL (upL l h c) k d = upL (upL l k d) h c := by
  funext j
  unfold upL
  by_cases h1 : j = h <;> by_cases h2 : j = k <;> simp only [h1, h2, if_true, if_false] <;> (try split) <;> (try split) <;> omega
/-- the form on letters, in turn: each letter adds to the generator behind its own -/
def qh : List Int → (Nat → Int) → (Nat → Int) → Int
  | [], _, _ => 0
  | z :: w, x, l => -sgl z * (x 0 * x 0) + 2 * (x 0 * l z.natAbs) + qh w (fun k => x (k + 1)) (upL l (z.natAbs + 1) (x 0))
theorem qh_cons (z : Int) (w : List Int) (x l : Nat → Int) : qh (z :: w) x l = -sgl z * (x 0 * x 0) + 2 * (x 0 * l z.natAbs) + qh w (fun k => x (k + 1)) (upL l (z.natAbs + 1) (x 0)) := rfl
/-- the sum over the letters of a generator -/
def sS : List Int → (Nat → Int) → Nat → Int
  | [], _, _ => 0
  | z :: w, x, h => (if z.natAbs = h then x 0 else 0) + sS w (fun k => x (k + 1)) h
theorem qh_up : ∀ (w : List Int) (x l : Nat → Int) (h : Nat) (c : Int), qh w x (upL l h c) = qh w x l + 2 * (c * sS w x h)
  | [], x, l, h, c => by show (0 : Int) = 0 + 2 * (c * 0); omega
  | z :: w, x, l, h, c => by
    rw [qh_cons, qh_cons, upL_comm, qh_up w]
    show _ = _ + 2 * (c * ((if z.natAbs = h then x 0 else 0) + sS w (fun k => x (k + 1)) h))
    have e : upL l h c z.natAbs = l z.natAbs + if z.natAbs = h then c else 0 := by unfold upL; split <;> omega
    rw [e]
    by_cases e : z.natAbs = h
    · rw [if_pos e, if_pos e]; grind
    · rw [if_neg e, if_neg e]; grind
theorem qh_congr : ∀ {w : List Int} {x x' l l' : Nat → Int}, (∀ k, k < w.length → x k = x' k) → (∀ z ∈ w, l z.natAbs = l' z.natAbs) → qh w x l = qh w x' l'
  | [], _, _, _, _, _, _ => rfl
  | z :: w, x, x', l, l', hx, hl => by
    have h0 := hx 0 (by simp)
    rw [qh_cons, qh_cons, h0, hl z (by simp), qh_congr (w := w) (x := fun k => x (k + 1)) (x' := fun k => x' (k + 1)) (l := upL l (z.natAbs + 1) (x' 0)) (l' := upL l' (z.natAbs + 1) (x' 0)) (fun k hk => hx (k + 1) (by simp; omega)) fun y hy => by
      have := hl y (by simp [hy])
      unfold upL
      split <;> omega]
theorem sS_congr : ∀ {w : List Int} {x x' : Nat → Int} (h : Nat), (∀ k, k < w.length → x k = x' k) → sS w x h = sS w x' h
  | [], _, _, _, _ => rfl
  | z :: w, x, x', h, hx => by
    show (if _ then _ else _) + _ = (if _ then _ else _) + _
    rw [hx 0 (by simp), sS_congr (w := w) (x := fun k => x (k + 1)) (x' := fun k => x' (k + 1)) h fun k hk => hx (k + 1) (by simp; omega)]
theorem sS_zero : ∀ {w : List Int} {x : Nat → Int} (h : Nat), (∀ k, k < w.length → x k = 0) → sS w x h = 0
  | [], _, _, _ => rfl
  | z :: w, x, h, hx => by
    show (if _ then _ else _) + _ = _
    rw [hx 0 (by simp), sS_zero (w := w) (x := fun k => x (k + 1)) h fun k hk => hx (k + 1) (by simp; omega)]
    split <;> rfl
theorem sS_none : ∀ {w : List Int} {x : Nat → Int} {h : Nat}, (∀ z ∈ w, z.natAbs ≠ h) → sS w x h = 0
  | [], _, _, _ => rfl
  | z :: w, x, h, hx => by
    show (if _ then _ else _) + _ = _
    rw [if_neg (hx z (by simp)), sS_none (w := w) fun y hy => hx y (by simp [hy])]
    rfl
theorem sS_add : ∀ (w : List Int) (x y : Nat → Int) (h : Nat), sS w (fun k => x k + y k) h = sS w x h + sS w y h
  | [], _, _, _ => rfl
  | z :: w, x, y, h => by
    show (if z.natAbs = h then x 0 + y 0 else 0) + sS w (fun k => x (k + 1) + y (k + 1)) h = ((if z.natAbs = h then x 0 else 0) + sS w (fun k => x (k + 1)) h) + ((if z.natAbs = h then y 0 else 0) + sS w (fun k => y (k + 1)) h)
    rw [sS_add w (fun k => x (k + 1)) (fun k => y (k + 1)) h]
    split <;> omega
theorem sS_mul : ∀ (w : List Int) (t : Int) (x : Nat → Int) (h : Nat), sS w (fun k => t * x k) h = t * sS w x h
  | [], t, _, _ => (Int.mul_zero t).symm
  | z :: w, t, x, h => by
    show (if _ then _ else _) + sS w (fun k => t * x (k + 1)) h = t * ((if _ then _ else _) + sS w (fun k => x (k + 1)) h)
    rw [sS_mul w t (fun k => x (k + 1)) h, Int.mul_add]
    split
    · rfl
    · rw [Int.mul_zero]
/-- a letter more at the end -/
theorem qh_snoc {z : Int} (hz : z ≠ 0) : ∀ (w : List Int) (x l : Nat → Int), qh (w ++ [z]) x l = qh w x l + (-sgl z * (x w.length * x w.length) + 2 * (x w.length * (l z.natAbs + sS w x (z.natAbs - 1))))
  | [], x, l => by
    show -sgl z * (x 0 * x 0) + 2 * (x 0 * l z.natAbs) + 0 = 0 + (-sgl z * (x 0 * x 0) + 2 * (x 0 * (l z.natAbs + 0)))
    rw [Int.add_zero (l z.natAbs)]; omega
  | y :: w, x, l => by
    rw [List.cons_append, qh_cons, qh_cons, qh_snoc hz w]
    show _ = _ + (-sgl z * (x (w.length + 1) * x (w.length + 1)) + 2 * (x (w.length + 1) * (l z.natAbs + ((if y.natAbs = z.natAbs - 1 then x 0 else 0) + sS w (fun k => x (k + 1)) (z.natAbs - 1)))))
    have e : upL l (y.natAbs + 1) (x 0) z.natAbs = l z.natAbs + if y.natAbs = z.natAbs - 1 then x 0 else 0 := by
      unfold upL
      by_cases h : z.natAbs = y.natAbs + 1
      · rw [if_pos h, if_pos (by omega)]
      · rw [if_neg h, if_neg (by omega), Int.add_zero]
    rw [e]
    grind
/-- a word over n strands -/
def WdN (n : Nat) (w : List Int) : Prop := ∀ z ∈ w, 1 ≤ z.natAbs ∧ z.natAbs < n
/-- the numbers of the generators, behind those of the letters -/
def lB (n N : Nat) (v : Nat → Int) : Nat → Int := fun h => if 1 ≤ h ∧ h < n then v (N + h - 1) else 0
theorem lB_in {n N h : Nat} (v : Nat → Int) (h1 : 1 ≤ h) (h2 : h < n) : lB n N v h = v (N + h - 1) := if_pos ⟨h1, h2⟩
def qB (n : Nat) (w : List Int) (v : Nat → Int) : Int := qh w v (lB n w.length v)
theorem qB_QF (n : Nat) (w : List Int) : QF (w.length + (n - 1)) (qB n w) := fun v v' h => by
  refine qh_congr (fun k hk => h k (by omega)) fun z _ => ?_
  unfold lB
  split
  · exact h _ (by omega)
  · rfl
/-- the signature of the form -/
def SgB (n : Nat) (w : List Int) (s : Int) : Prop := ∃ p r, SgF (w.length + (n - 1)) (qB n w) p r ∧ (p : Int) - r = s
theorem SgB.uniq {n : Nat} {w : List Int} {s s' : Int} (h : SgB n w s) (h' : SgB n w s') : s = s' := by
  obtain ⟨p, r, h1, rfl⟩ := h
  obtain ⟨p', r', h2, rfl⟩ := h'
  obtain ⟨rfl, rfl⟩ := h1.uniq (qB_QF n w) h2
  rfl
/-! ### it exists -/
def LinQ (n : Nat) (f : (Nat → Int) → Int) : Prop := ∃ a : Nat → Int, ∀ v, f v = sI n fun i => a i * v i
def QuadI (n : Nat) (q : (Nat → Int) → Int) : Prop := ∃ A : Mx, Sym n A ∧ ∀ v, q v = bil n A v v
theorem LinQ.add {n : Nat} {f g : (Nat → Int) → Int} (hf : LinQ n f) (hg : LinQ n g) : LinQ n fun v => f v + g v := by
  obtain ⟨a, ha⟩ := hf
  obtain ⟨b, hb⟩ := hg
  exact ⟨fun i => a i + b i, fun v => by dsimp only; rw [ha, hb, ← sI_add]; exact sI_congr fun i _ => (Int.add_mul _ _ _).symm⟩
theorem LinQ.at_ {n k : Nat} (hk : k < n) : LinQ n fun v => v k := ⟨fun i => if i = k then 1 else 0, fun v => by
  rw [sI_one (k := k) (fun i => (if i = k then 1 else 0) * v i) hk fun j _ hj => by rw [if_neg hj, Int.zero_mul], if_pos rfl, Int.one_mul]⟩
theorem LinQ.zero (n : Nat) : LinQ n fun _ => 0 := ⟨fun _ => 0, fun v => by rw [sI_all0 fun i _ => Int.zero_mul _]⟩
theorem QuadI.add {n : Nat} {q q' : (Nat → Int) → Int} (h : QuadI n q) (h' : QuadI n q') : QuadI n fun v => q v + q' v := by
  obtain ⟨A, hA, ha⟩ := h
  obtain ⟨B, hB, hb⟩ := h'
  refine ⟨fun i j => A i j + B i j, fun i j hi hj => by show A i j + B i j = A j i + B j i; rw [hA i j hi hj, hB i j hi hj], fun v => ?_⟩
  dsimp only
  rw [ha, hb]
  unfold bil
  rw [← sI_add]
  refine sI_congr fun i _ => ?_
  rw [← Int.mul_add, ← sI_add]
  congr 1
  exact sI_congr fun j _ => (Int.add_mul _ _ _).symm
theorem QuadI.zero (n : Nat) : QuadI n fun _ => 0 := ⟨fun _ _ => 0, fun _ _ _ _ => rfl, fun v => by
  unfold bil
  rw [sI_all0 fun i _ => by rw [sI_all0 fun j _ => Int.zero_mul _, Int.mul_zero]]⟩
theorem QuadI.prod {n : Nat} {f g : (Nat → Int) → Int} (hf : LinQ n f) (hg : LinQ n g) : QuadI n fun v => 2 * (f v * g v) := by
  obtain ⟨a, ha⟩ := hf
  obtain ⟨b, hb⟩ := hg
  refine ⟨fun i j => a i * b j + b i * a j, fun i j _ _ => by show a i * b j + b i * a j = a j * b i + b j * a i; grind, fun v => ?_⟩
  dsimp only
  rw [ha, hb]
  have e1 : ∀ i, (sI n fun j => (a i * b j + b i * a j) * v j) = a i * (sI n fun j => b j * v j) + b i * sI n fun j => a j * v j := fun i => by
    rw [← sI_mul, ← sI_mul, ← sI_add]
    exact sI_congr fun j _ => by grind
  have e2 : bil n (fun i j => a i * b j + b i * a j) v v = (sI n fun j => b j * v j) * (sI n fun i => a i * v i) + (sI n fun j => a j * v j) * sI n fun i => b i * v i := by
    unfold bil
    rw [← sI_mul, ← sI_mul, ← sI_add]
    exact sI_congr fun i _ => by rw [e1]; grind
  rw [e2]
  grind
theorem QuadI.sq {n : Nat} {f : (Nat → Int) → Int} (hf : LinQ n f) (t : Int) : QuadI n fun v => t * (f v * f v) := by
  obtain ⟨a, ha⟩ := hf
  refine ⟨fun i j => t * (a i * a j), fun i j _ _ => by show t * (a i * a j) = t * (a j * a i); grind, fun v => ?_⟩
  dsimp only
  rw [ha]
  have e1 : ∀ i, (sI n fun j => (t * (a i * a j)) * v j) = t * a i * sI n fun j => a j * v j := fun i => by
    rw [← sI_mul]
    exact sI_congr fun j _ => by grind
  have e2 : bil n (fun i j => t * (a i * a j)) v v = (t * sI n fun j => a j * v j) * sI n fun i => a i * v i := by
    unfold bil
    rw [← sI_mul]
    exact sI_congr fun i _ => by rw [e1]; grind
  rw [e2]
  grind
theorem qh_quad {n : Nat} : ∀ (w : List Int) (X L : Nat → (Nat → Int) → Int), (∀ k, k < w.length → LinQ n (X k)) → (∀ h, LinQ n (L h)) → QuadI n fun v => qh w (fun k => X k v) fun h => L h v
  | [], _, _, _, _ => QuadI.zero n
  | z :: w, X, L, hX, hL => by
    have h0 := hX 0 (by simp)
    have h1 := (QuadI.sq h0 (-sgl z)).add (QuadI.prod h0 (hL z.natAbs))
    refine h1.add (qh_quad w (fun k => X (k + 1)) (fun h v => upL (fun h => L h v) (z.natAbs + 1) (X 0 v) h) (fun k hk => hX (k + 1) (by simp; omega)) fun h => ?_)
    unfold upL
    by_cases e : h = z.natAbs + 1
    · simp only [e, if_true]
      exact (hL _).add h0
    · simp only [e, if_false]
      exact hL h
theorem SgB.ex (n : Nat) (w : List Int) : ∃ s, SgB n w s := by
  obtain ⟨A, hA, ha⟩ := qh_quad (n := w.length + (n - 1)) w (fun k v => v k) (fun h v => lB n w.length v h) (fun k hk => LinQ.at_ (by omega)) fun h => by
    unfold lB
    by_cases e : 1 ≤ h ∧ h < n
    · simp only [e, and_self, if_true]
      exact LinQ.at_ (by omega)
    · simp only [e, if_false]
      exact LinQ.zero _
  obtain ⟨p, r, hI⟩ := inr_ex hA
  have hs := sgf_of_inr hI
  rw [show (fun v => bil (w.length + (n - 1)) A v v) = qB n w from funext fun v => (ha v).symm] at hs
  exact ⟨_, p, r, hs, rfl⟩
end Go.Proofs.Yteanhbldhaiekaa
