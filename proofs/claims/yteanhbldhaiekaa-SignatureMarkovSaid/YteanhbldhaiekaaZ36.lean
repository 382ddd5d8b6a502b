/-
  The steps of Markov's theorem on the form of a closed braid. No program here.
-/
import Derived.Test.YteanhbldhaiekaaZ35
namespace Go.Proofs.Yteanhbldhaiekaa

section
variable {n : Nat} {z : Int} {w : List Int}
theorem WdN.tail (h : WdN n (z :: w)) : WdN n w := fun y hy => h y (by simp [hy])
theorem WdN.app {u : List Int} (h : WdN n w) (h' : WdN n u) : WdN n (w ++ u) := fun y hy => by
  rcases List.mem_append.1 hy with e | e
  · exact h y e
  · exact h' y e
theorem WdN.left {u : List Int} (h : WdN n (w ++ u)) : WdN n w := fun y hy => h y (List.mem_append_left _ hy)
theorem WdN.right {u : List Int} (h : WdN n (w ++ u)) : WdN n u := fun y hy => h y (List.mem_append_right _ hy)
/-- the first letter goes behind the last one -/
theorem SgB.rot {s : Int} (hw : WdN n (z :: w)) (h : SgB n (z :: w) s) : SgB n (w ++ [z]) s := by
  obtain ⟨hz1, hz2⟩ := hw z (by simp)
  obtain ⟨p, r, hs, rfl⟩ := h
  obtain ⟨N, hN⟩ : ∃ N, w.length = N := ⟨_, rfl⟩
  obtain ⟨g, hg⟩ : ∃ g, z.natAbs = g := ⟨_, rfl⟩
  rw [hg] at hz1 hz2
  have hl1 : (z :: w).length = N + 1 := by simp [hN]
  have hl2 : (w ++ [z]).length = N + 1 := by simp [hN]
  let φ : (Nat → Int) → Nat → Int := fun v i => if i < N then v (i + 1) else if i = N then v 0 else v i + (if i = N + g + 1 then v 0 else 0) - (if i + 1 = N + g then v 0 else 0)
  have f1 : ∀ v i, i < N → φ v i = v (i + 1) := fun v i hi => if_pos hi
  have f2 : ∀ v, φ v N = v 0 := fun v => by show (if _ then _ else if _ then _ else _) = _; rw [if_neg (by omega), if_pos rfl]
  have f3 : ∀ v i, N < i → φ v i = v i + (if i = N + g + 1 then v 0 else 0) - (if i + 1 = N + g then v 0 else 0) := fun v i hi => by show (if _ then _ else if _ then _ else _) = _; rw [if_neg (by omega), if_neg (by omega)]
  refine ⟨p, r, ?_, rfl⟩
  have hq1 := qB_QF n (z :: w)
  have hq2 := qB_QF n (w ++ [z])
  rw [hl1] at hs hq1
  rw [hl2] at hq2 ⊢
  refine hs.lin (φ := φ) ⟨fun v v' i => ?_, fun t v i => ?_⟩ (fun v hv i hi => ?_) hq1 hq2 fun v => ?_
  · show (if i < N then v (i + 1) + v' (i + 1) else if i = N then v 0 + v' 0 else v i + v' i + (if i = N + g + 1 then v 0 + v' 0 else 0) - (if i + 1 = N + g then v 0 + v' 0 else 0)) = (if i < N then v (i + 1) else if i = N then v 0 else v i + (if i = N + g + 1 then v 0 else 0) - (if i + 1 = N + g then v 0 else 0)) + (if i < N then v' (i + 1) else if i = N then v' 0 else v' i + (if i = N + g + 1 then v' 0 else 0) - (if i + 1 = N + g then v' 0 else 0))
    split
    · rfl
    · split
      · rfl
      · split <;> split <;> omega
  · show (if _ then _ else if _ then _ else _) = t * (if _ then _ else if _ then _ else _)
    split
    · rfl
    · split
      · rfl
      · split <;> split <;> grind
  · have h0 : v 0 = 0 := by rw [← f2 v]; exact hv N (by omega)
    rcases Nat.eq_zero_or_pos i with e | e
    · rw [e]; exact h0
    · by_cases h1 : i ≤ N
      · have := hv (i - 1) (by omega)
        rw [f1 v _ (by omega), show i - 1 + 1 = i by omega] at this
        exact this
      · have := hv i hi
        rw [f3 v i (by omega), h0] at this
        split at this <;> split at this <;> omega
  · unfold qB
    rw [hl1, hl2, qh_snoc (by intro e; rw [e] at hg; simp at hg; omega), qh_cons, hN, f2, hg]
    have hL : ∀ h, 1 ≤ h → h < n → lB n (N + 1) (φ v) h = upL (upL (lB n (N + 1) v) (g + 1) (v 0)) (g - 1) (-v 0) h := fun h h1 h2 => by
      rw [lB_in _ h1 h2, f3 v _ (by omega)]
      unfold upL
      rw [lB_in _ h1 h2]
      by_cases e1 : h = g + 1 <;> by_cases e2 : h = g - 1
      · omega
      · rw [if_neg e2, if_pos e1, if_pos (by omega), if_neg (by omega)]; omega
      · rw [if_pos e2, if_neg e1, if_neg (by omega), if_pos (by omega)]; omega
      · rw [if_neg e2, if_neg e1, if_neg (by omega), if_neg (by omega)]; omega
    rw [qh_congr (w := w) (x := φ v) (x' := fun k => v (k + 1)) (l' := upL (upL (lB n (N + 1) v) (g + 1) (v 0)) (g - 1) (-v 0)) (fun k hk => f1 v k (by omega)) fun y hy => by
      obtain ⟨y1, y2⟩ := hw.tail y hy
      exact hL _ y1 y2]
    rw [qh_up, qh_up, sS_congr (w := w) (x := φ v) (x' := fun k => v (k + 1)) (g - 1) fun k hk => f1 v k (by omega)]
    have e : lB n (N + 1) (φ v) g = lB n (N + 1) v g := by
      rw [hL g hz1 hz2]
      unfold upL
      rw [if_neg (by omega), if_neg (by omega)]
    rw [e]
    grind
theorem SgB.rots {s : Int} : ∀ {u v : List Int}, WdN n (u ++ v) → SgB n (u ++ v) s → SgB n (v ++ u) s
  | [], v, _, h => by simpa using h
  | z :: u, v, hw, h => by
    have h1 := SgB.rot (w := u ++ v) hw h
    rw [List.append_assoc] at h1
    have hw2 : WdN n (u ++ (v ++ [z])) := by
      rw [← List.append_assoc]
      exact (WdN.tail (z := z) hw).app fun y hy => by
        simp at hy; subst hy; exact hw y (by simp)
    have := SgB.rots (u := u) (v := v ++ [z]) hw2 h1
    rwa [List.append_assoc] at this
/-- two inverse letters at the front -/
theorem SgB.ins {s : Int} (hz1 : 1 ≤ z.natAbs) (hz2 : z.natAbs < n) (h : SgB n w s) : SgB n (z :: -z :: w) s := by
  obtain ⟨p, r, hs, rfl⟩ := h
  have hz0 : z ≠ 0 := by intro e; rw [e] at hz1; simp at hz1
  obtain ⟨N, hN⟩ : ∃ N, w.length = N := ⟨_, rfl⟩
  obtain ⟨g, hg⟩ : ∃ g, z.natAbs = g := ⟨_, rfl⟩
  obtain ⟨σ, hσ⟩ : ∃ σ, sgl z = σ := ⟨_, rfl⟩
  have hσ2 : σ * σ = 1 := by rw [← hσ]; rcases sgl_two z with e | e <;> rw [e] <;> rfl
  rw [hg] at hz1 hz2
  have hl2 : (z :: -z :: w).length = N + 2 := by simp [hN]
  obtain ⟨D, hD⟩ : ∃ D, N + (n - 1) = D := ⟨_, rfl⟩
  let K : (Nat → Int) → Int := fun v => v (D + 1) - v (N + g - 1) - sS w v (g + 1)
  let φ : (Nat → Int) → Nat → Int := fun v i => if i = 0 then v D - σ * K v else if i = 1 then v D + σ * K v else v (i - 2)
  have f2 : ∀ v i, 2 ≤ i → φ v i = v (i - 2) := fun v i hi => by show (if _ then _ else if _ then _ else _) = _; rw [if_neg (by omega), if_neg (by omega)]
  have kadd : ∀ v v', K (fun j => v j + v' j) = K v + K v' := fun v v' => by
    show v (D + 1) + v' (D + 1) - (v (N + g - 1) + v' (N + g - 1)) - sS w (fun j => v j + v' j) (g + 1) = _
    rw [sS_add]
    show _ = (v (D + 1) - v (N + g - 1) - sS w v (g + 1)) + (v' (D + 1) - v' (N + g - 1) - sS w v' (g + 1))
    omega
  have kmul : ∀ t v, K (fun j => t * v j) = t * K v := fun t v => by
    show t * v (D + 1) - t * v (N + g - 1) - sS w (fun j => t * v j) (g + 1) = t * (v (D + 1) - v (N + g - 1) - sS w v (g + 1))
    rw [sS_mul]
    grind
  have hq1 := qB_QF n w
  have hq2 := qB_QF n (z :: -z :: w)
  rw [hN, hD] at hs hq1
  rw [hl2, show N + 2 + (n - 1) = D + 2 * 1 by omega] at hq2
  refine ⟨p + 1, r + 1, ?_, by omega⟩
  rw [hl2, show N + 2 + (n - 1) = D + 2 * 1 by omega]
  refine hs.hyp (φ := φ) (k := 4) ⟨fun v v' i => ?_, fun t v i => ?_⟩ (fun v hv i hi => ?_) hq1 hq2 (by decide) fun v => ?_
  · show (if i = 0 then v D + v' D - σ * K (fun j => v j + v' j) else if i = 1 then v D + v' D + σ * K (fun j => v j + v' j) else v (i - 2) + v' (i - 2)) = (if i = 0 then v D - σ * K v else if i = 1 then v D + σ * K v else v (i - 2)) + (if i = 0 then v' D - σ * K v' else if i = 1 then v' D + σ * K v' else v' (i - 2))
    rw [kadd]
    split
    · grind
    · split
      · grind
      · rfl
  · show (if i = 0 then t * v D - σ * K (fun j => t * v j) else if i = 1 then t * v D + σ * K (fun j => t * v j) else t * v (i - 2)) = t * (if i = 0 then v D - σ * K v else if i = 1 then v D + σ * K v else v (i - 2))
    rw [kmul]
    split
    · grind
    · split
      · grind
      · rfl
  · have h0 : v D - σ * K v = 0 := hv 0 (by omega)
    have h1 : v D + σ * K v = 0 := hv 1 (by omega)
    have hb : ∀ j, j < D → v j = 0 := fun j hj => by
      have := hv (j + 2) (by omega)
      rwa [f2 v _ (by omega), show j + 2 - 2 = j by omega] at this
    have hD0 : v D = 0 := by omega
    have hK : K v = v (D + 1) := by
      show v (D + 1) - v (N + g - 1) - sS w v (g + 1) = _
      rw [hb (N + g - 1) (by omega), sS_zero (g + 1) fun k hk => hb k (by omega)]
      omega
    rw [hK, hD0] at h1
    by_cases e : i < D
    · exact hb i e
    · by_cases e2 : i = D
      · rw [e2]; exact hD0
      · have e3 : i = D + 1 := by omega
        rw [e3]
        have h4 : σ * v (D + 1) = 0 := by omega
        rcases Int.mul_eq_zero.1 h4 with h | h
        · rw [h] at hσ2; simp at hσ2
        · exact h
  · unfold qB
    rw [hl2, hN, qh_cons, qh_cons, sgl_neg hz0, Int.natAbs_neg, hg, hσ]
    have hL : ∀ h, lB n (N + 2) (φ v) h = lB n N v h := fun h => by
      unfold lB
      split
      · rw [f2 v _ (by omega)]; congr 1; omega
      · rfl
    rw [show lB n (N + 2) (φ v) = lB n N v from funext hL]
    have ex : (fun k => (fun k => φ v (k + 1)) (k + 1)) = v := funext fun k => f2 v (k + 2) (by omega)
    rw [ex, qh_up, qh_up]
    have e1 : upL (lB n N v) (g + 1) (φ v 0) g = v (N + g - 1) := by unfold upL; rw [if_neg (by omega), lB_in _ hz1 hz2]
    (try dsimp only)
    rw [Nat.zero_add, e1, lB_in _ hz1 hz2]
    have e2 : φ v 0 = v D - σ * K v := rfl
    have e3 : φ v 1 = v D + σ * K v := rfl
    rw [e2, e3]
    show _ = _ + 4 * (0 + v (D + 0) * v (D + 1 + 0))
    have e4 : v (D + 1) = K v + v (N + g - 1) + sS w v (g + 1) := by show _ = v (D + 1) - v (N + g - 1) - sS w v (g + 1) + v (N + g - 1) + sS w v (g + 1); omega
    rw [Nat.add_zero, Nat.add_zero, e4]
    grind
/-- a new strand and its letter -/
theorem SgB.stab {s : Int} (hw : WdN n w) (hn : 1 ≤ n) (hz : z.natAbs = n) (h : SgB n w s) : SgB (n + 1) (z :: w) s := by
  obtain ⟨p, r, hs, rfl⟩ := h
  obtain ⟨N, hN⟩ : ∃ N, w.length = N := ⟨_, rfl⟩
  obtain ⟨σ, hσ⟩ : ∃ σ, sgl z = σ := ⟨_, rfl⟩
  have hl2 : (z :: w).length = N + 1 := by simp [hN]
  obtain ⟨D, hD⟩ : ∃ D, N + (n - 1) = D := ⟨_, rfl⟩
  let φ : (Nat → Int) → Nat → Int := fun v i => if i = 0 then 2 * v D else if i = D + 1 then v (D + 1) + σ * v D else v (i - 1)
  have f2 : ∀ v i, 1 ≤ i → i ≤ D → φ v i = v (i - 1) := fun v i h1 h2 => by show (if _ then _ else if _ then _ else _) = _; rw [if_neg (by omega), if_neg (by omega)]
  have hq1 := qB_QF n w
  have hq2 := qB_QF (n + 1) (z :: w)
  rw [hN, hD] at hs hq1
  rw [hl2, show N + 1 + (n + 1 - 1) = D + 2 * 1 by omega] at hq2
  refine ⟨p + 1, r + 1, ?_, by omega⟩
  rw [hl2, show N + 1 + (n + 1 - 1) = D + 2 * 1 by omega]
  refine hs.hyp (φ := φ) (k := 4) ⟨fun v v' i => ?_, fun t v i => ?_⟩ (fun v hv i hi => ?_) hq1 hq2 (by decide) fun v => ?_
  · show (if _ then _ else if _ then _ else _) = (if _ then _ else if _ then _ else _) + (if _ then _ else if _ then _ else _)
    split
    · grind
    · split
      · grind
      · rfl
  · show (if _ then _ else if _ then _ else _) = t * (if _ then _ else if _ then _ else _)
    split
    · grind
    · split
      · grind
      · rfl
  · have h0 : 2 * v D = 0 := hv 0 (by omega)
    have h1 : φ v (D + 1) = 0 := hv (D + 1) (by omega)
    have e1 : φ v (D + 1) = v (D + 1) + σ * v D := by show (if _ then _ else if _ then _ else _) = _; rw [if_neg (by omega), if_pos rfl]
    have hD0 : v D = 0 := by omega
    rw [e1, hD0, Int.mul_zero] at h1
    by_cases e : i < D
    · have := hv (i + 1) (by omega)
      rwa [f2 v _ (by omega) (by omega), show i + 1 - 1 = i by omega] at this
    · by_cases e2 : i = D
      · rw [e2]; exact hD0
      · rw [show i = D + 1 by omega]; omega
  · unfold qB
    rw [hl2, hN, qh_cons, hz, hσ]
    have e0 : φ v 0 = 2 * v D := rfl
    have e1 : lB (n + 1) (N + 1) (φ v) n = v (D + 1) + σ * v D := by
      rw [lB_in _ hn (by omega), show N + 1 + n - 1 = D + 1 by omega]
      show (if _ then _ else if _ then _ else _) = _
      rw [if_neg (by omega), if_pos rfl]
    rw [qh_congr (w := w) (x' := v) (l' := upL (lB n N v) (n + 1) (φ v 0)) (fun k hk => f2 v (k + 1) (by omega) (by omega)) fun y hy => by
      obtain ⟨y1, y2⟩ := hw y hy
      unfold upL
      rw [if_neg (by omega), if_neg (by omega), lB_in _ y1 (by omega), lB_in _ y1 y2, f2 v _ (by omega) (by omega)]
      congr 1; omega, qh_up, sS_none fun y hy => by have := (hw y hy).2; omega, e0, e1]
    show _ = _ + 4 * (0 + v (D + 0) * v (D + 1 + 0))
    rw [Nat.add_zero, Nat.add_zero]
    grind
end
theorem qh_two (x0 x1 : Int) (l : Nat → Int) (a b : Nat) (w : List Int) (v : Nat → Int) : qh w v (upL (upL l a x0) b x1) = qh w v l + 2 * (x0 * sS w v a) + 2 * (x1 * sS w v b) := by rw [qh_up, qh_up]
section
variable {n : Nat} {y z : Int} {w : List Int}
/-- two letters far apart, at the front -/
theorem SgB.comm {s : Int} (h1 : y.natAbs + 1 ≠ z.natAbs) (h2 : z.natAbs + 1 ≠ y.natAbs) (h : SgB n (y :: z :: w) s) : SgB n (z :: y :: w) s := by
  obtain ⟨p, r, hs, rfl⟩ := h
  obtain ⟨N, hN⟩ : ∃ N, w.length = N := ⟨_, rfl⟩
  have hl1 : (y :: z :: w).length = N + 2 := by simp [hN]
  have hl2 : (z :: y :: w).length = N + 2 := by simp [hN]
  let φ : (Nat → Int) → Nat → Int := fun v i => if i = 0 then v 1 else if i = 1 then v 0 else v i
  have f2 : ∀ v i, 2 ≤ i → φ v i = v i := fun v i hi => by show (if _ then _ else if _ then _ else _) = _; rw [if_neg (by omega), if_neg (by omega)]
  refine ⟨p, r, ?_, rfl⟩
  have hq1 := qB_QF n (y :: z :: w)
  have hq2 := qB_QF n (z :: y :: w)
  rw [hl1] at hs hq1
  rw [hl2] at hq2 ⊢
  refine hs.lin (φ := φ) ⟨fun v v' i => ?_, fun t v i => ?_⟩ (fun v hv i hi => ?_) hq1 hq2 fun v => ?_
  · show (if _ then _ else if _ then _ else _) = (if _ then _ else if _ then _ else _) + (if _ then _ else if _ then _ else _)
    split
    · rfl
    · split <;> rfl
  · show (if _ then _ else if _ then _ else _) = t * (if _ then _ else if _ then _ else _)
    split
    · rfl
    · split <;> rfl
  · have h0 : v 1 = 0 := hv 0 (by omega)
    have h1 : v 0 = 0 := hv 1 (by omega)
    by_cases e0 : i = 0
    · rw [e0]; exact h1
    · by_cases e1 : i = 1
      · rw [e1]; exact h0
      · rw [← f2 v i (by omega)]; exact hv i hi
  · unfold qB
    rw [hl1, hl2, qh_cons, qh_cons, qh_cons, qh_cons]
    have hL : lB n (N + 2) (φ v) = lB n (N + 2) v := funext fun h => by
      unfold lB
      split
      · exact f2 v _ (by omega)
      · rfl
    have ex : (fun k => (fun k => φ v (k + 1)) (k + 1)) = fun k => (fun k => v (k + 1)) (k + 1) := funext fun k => f2 v (k + 2) (by omega)
    rw [hL, ex, qh_two, qh_two]
    have e0 : φ v 0 = v 1 := rfl
    have e1 : φ v 1 = v 0 := rfl
    dsimp only
    rw [Nat.zero_add, e0, e1]
    have u1 : upL (lB n (N + 2) v) (z.natAbs + 1) (v 1) y.natAbs = lB n (N + 2) v y.natAbs := by unfold upL; rw [if_neg (Ne.symm h2)]
    have u2 : upL (lB n (N + 2) v) (y.natAbs + 1) (v 0) z.natAbs = lB n (N + 2) v z.natAbs := by unfold upL; rw [if_neg (Ne.symm h1)]
    rw [u1, u2]
    grind
/-- three letters, at the front -/
theorem SgB.trip {s : Int} (hσ : sgl y = sgl z) (hd : z.natAbs = y.natAbs + 1 ∨ y.natAbs = z.natAbs + 1) (h : SgB n (y :: z :: y :: w) s) : SgB n (z :: y :: z :: w) s := by
  obtain ⟨p, r, hs, rfl⟩ := h
  obtain ⟨N, hN⟩ : ∃ N, w.length = N := ⟨_, rfl⟩
  obtain ⟨σ, hs'⟩ : ∃ σ, sgl z = σ := ⟨_, rfl⟩
  rw [hs'] at hσ
  have hσ2 : σ * σ = 1 := by rw [← hs']; rcases sgl_two z with e | e <;> rw [e] <;> rfl
  have hl1 : (y :: z :: y :: w).length = N + 3 := by simp [hN]
  have hl2 : (z :: y :: z :: w).length = N + 3 := by simp [hN]
  have hq1 := qB_QF n (y :: z :: y :: w)
  have hq2 := qB_QF n (z :: y :: z :: w)
  rw [hl1] at hs hq1
  rw [hl2] at hq2
  refine ⟨p, r, ?_, rfl⟩
  rw [hl2]
  -- the three numbers
  have key : ∀ (a b c : (Nat → Int) → Int), (∀ v v', a (fun j => v j + v' j) = a v + a v' ∧ b (fun j => v j + v' j) = b v + b v' ∧ c (fun j => v j + v' j) = c v + c v') → (∀ t v, a (fun j => t * v j) = t * a v ∧ b (fun j => t * v j) = t * b v ∧ c (fun j => t * v j) = t * c v) →
      (∀ v, a v = 0 → b v = 0 → c v = 0 → v 0 = 0 ∧ v 1 = 0 ∧ v 2 = 0) →
      (∀ v (A B S T : Int), (∀ l : Nat → Int, l y.natAbs = A → l z.natAbs = B →
        -σ * (a v * a v) + 2 * (a v * l z.natAbs) + (-σ * (b v * b v) + 2 * (b v * upL l (z.natAbs + 1) (a v) y.natAbs) + (-σ * (c v * c v) + 2 * (c v * upL (upL l (z.natAbs + 1) (a v)) (y.natAbs + 1) (b v) z.natAbs) + (2 * ((a v + c v) * T) + 2 * (b v * S)))) =
        -σ * (v 0 * v 0) + 2 * (v 0 * l y.natAbs) + (-σ * (v 1 * v 1) + 2 * (v 1 * upL l (y.natAbs + 1) (v 0) z.natAbs) + (-σ * (v 2 * v 2) + 2 * (v 2 * upL (upL l (y.natAbs + 1) (v 0)) (z.natAbs + 1) (v 1) y.natAbs) + (2 * ((v 0 + v 2) * S) + 2 * (v 1 * T)))))) →
      SgF (N + 3 + (n - 1)) (qB n (z :: y :: z :: w)) p r := fun a b c hadd hmul hinj hval => by
    let φ : (Nat → Int) → Nat → Int := fun v i => if i = 0 then a v else if i = 1 then b v else if i = 2 then c v else v i
    have f2 : ∀ v i, 3 ≤ i → φ v i = v i := fun v i hi => by show (if _ then _ else if _ then _ else if _ then _ else _) = _; rw [if_neg (by omega), if_neg (by omega), if_neg (by omega)]
    refine hs.lin (φ := φ) ⟨fun v v' i => ?_, fun t v i => ?_⟩ (fun v hv i hi => ?_) hq1 hq2 fun v => ?_
    · obtain ⟨k1, k2, k3⟩ := hadd v v'
      show (if i = 0 then a (fun j => v j + v' j) else if i = 1 then b (fun j => v j + v' j) else if i = 2 then c (fun j => v j + v' j) else v i + v' i) = (if _ then _ else if _ then _ else if _ then _ else _) + (if _ then _ else if _ then _ else if _ then _ else _)
      rw [k1, k2, k3]
      split
      · rfl
      · split
        · rfl
        · split <;> rfl
    · obtain ⟨k1, k2, k3⟩ := hmul t v
      show (if i = 0 then a (fun j => t * v j) else if i = 1 then b (fun j => t * v j) else if i = 2 then c (fun j => t * v j) else t * v i) = t * (if _ then _ else if _ then _ else if _ then _ else _)
      rw [k1, k2, k3]
      split
      · rfl
      · split
        · rfl
        · split <;> rfl
    · obtain ⟨z0, z1, z2⟩ := hinj v (hv 0 (by omega)) (hv 1 (by omega)) (hv 2 (by omega))
      by_cases e0 : i = 0
      · rw [e0]; exact z0
      · by_cases e1 : i = 1
        · rw [e1]; exact z1
        · by_cases e2 : i = 2
          · rw [e2]; exact z2
          · rw [← f2 v i (by omega)]; exact hv i hi
    · unfold qB
      rw [hl1, hl2, qh_cons, qh_cons, qh_cons, qh_cons, qh_cons, qh_cons, hσ, hs']
      have hL : lB n (N + 3) (φ v) = lB n (N + 3) v := funext fun h => by
        unfold lB
        split
        · exact f2 v _ (by omega)
        · rfl
      have ex : (fun k => (fun k => (fun k => φ v (k + 1)) (k + 1)) (k + 1)) = fun k => (fun k => (fun k => v (k + 1)) (k + 1)) (k + 1) := funext fun k => f2 v (k + 3) (by omega)
      rw [hL, ex, qh_up, qh_two, qh_up, qh_two]
      have e0 : φ v 0 = a v := rfl
      have e1 : φ v 1 = b v := rfl
      have e2 : φ v 2 = c v := rfl
      dsimp only
      rw [Nat.zero_add, e0, e1, e2]
      generalize hx : (fun k => v (k + 1 + 1 + 1)) = x
      have := hval v (lB n (N + 3) v y.natAbs) (lB n (N + 3) v z.natAbs) (sS w x (y.natAbs + 1)) (sS w x (z.natAbs + 1)) (lB n (N + 3) v) rfl rfl
      generalize qh w x (lB n (N + 3) v) = Q
      grind
  rcases hd with hd | hd
  · refine key (fun v => v 1 - σ * v 0) (fun v => v 0 + v 2) (fun v => σ * v 0) (fun v v' => ⟨by grind, by grind, by grind⟩) (fun t v => ⟨by grind, by grind, by grind⟩) (fun v h1 h2 h3 => ?_) fun v A B S T l hA hB => ?_
    · have : v 0 = 0 := (Int.mul_eq_zero.1 h3).resolve_left fun e => by rw [e] at hσ2; simp at hσ2
      rw [this, Int.mul_zero] at h1
      omega
    · have u1 : ∀ (l : Nat → Int) (c : Int), upL l (z.natAbs + 1) c y.natAbs = l y.natAbs := fun l c => by unfold upL; rw [if_neg (by omega)]
      have u2 : ∀ (l : Nat → Int) (c : Int), upL l (y.natAbs + 1) c z.natAbs = l z.natAbs + c := fun l c => by unfold upL; rw [if_pos (by omega)]
      have u3 : ∀ (l : Nat → Int) (c : Int), upL l (z.natAbs + 1) c z.natAbs = l z.natAbs := fun l c => by unfold upL; rw [if_neg (by omega)]
      have u4 : ∀ (l : Nat → Int) (c : Int), upL l (y.natAbs + 1) c y.natAbs = l y.natAbs := fun l c => by unfold upL; rw [if_neg (by omega)]
      rw [u1, u2, u3, u2, u1, u4, hA, hB]
      grind
  · refine key (fun v => σ * v 2) (fun v => v 0 + v 2) (fun v => v 1 - σ * v 2) (fun v v' => ⟨by grind, by grind, by grind⟩) (fun t v => ⟨by grind, by grind, by grind⟩) (fun v h1 h2 h3 => ?_) fun v A B S T l hA hB => ?_
    · have : v 2 = 0 := (Int.mul_eq_zero.1 h1).resolve_left fun e => by rw [e] at hσ2; simp at hσ2
      rw [this, Int.mul_zero] at h3
      omega
    · have u1 : ∀ (l : Nat → Int) (c : Int), upL l (z.natAbs + 1) c y.natAbs = l y.natAbs + c := fun l c => by unfold upL; rw [if_pos (by omega)]
      have u2 : ∀ (l : Nat → Int) (c : Int), upL l (y.natAbs + 1) c z.natAbs = l z.natAbs := fun l c => by unfold upL; rw [if_neg (by omega)]
      have u3 : ∀ (l : Nat → Int) (c : Int), upL l (z.natAbs + 1) c z.natAbs = l z.natAbs := fun l c => by unfold upL; rw [if_neg (by omega)]
      have u4 : ∀ (l : Nat → Int) (c : Int), upL l (y.natAbs + 1) c y.natAbs = l y.natAbs := fun l c => by unfold upL; rw [if_neg (by omega)]
      rw [u1, u2, u3, u2, u1, u4, hA, hB]
      grind
end
end Go.Proofs.Yteanhbldhaiekaa
