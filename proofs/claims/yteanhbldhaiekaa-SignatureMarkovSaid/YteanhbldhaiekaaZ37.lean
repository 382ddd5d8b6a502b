/-
  The symmetrized Seifert matrix of a closed braid and its form on letters and generators have one signature. No program here.
-/
import Derived.Test.YteanhbldhaiekaaZ36
import Derived.Test.YteanhbldhaiekaaZ32
namespace Go.Proofs.Yteanhbldhaiekaa

/-! ### the form on letters as a matrix -/
def gN (ws : List Int) (k : Nat) : Nat := (gi ws k).natAbs
def Bm (ws : List Int) (k l : Nat) : Int := if k = l then -sgl (gi ws k) else if (k < l ∧ gN ws l = gN ws k + 1) ∨ (l < k ∧ gN ws k = gN ws l + 1) then 1 else 0
theorem Bm_comm (ws : List Int) (k l : Nat) : Bm ws k l = Bm ws l k := by
  unfold Bm
  by_cases e : k = l
  · subst e; rfl
  · rw [if_neg e, if_neg (Ne.symm e)]
    by_cases h : (k < l ∧ gN ws l = gN ws k + 1) ∨ (l < k ∧ gN ws k = gN ws l + 1)
    · rw [if_pos h, if_pos (by omega)]
    · rw [if_neg h, if_neg (by omega)]
theorem gi_cons0 (z : Int) (w : List Int) : gi (z :: w) 0 = z := rfl
theorem gi_consS (z : Int) (w : List Int) (k : Nat) : gi (z :: w) (k + 1) = gi w k := rfl
theorem sS_sum : ∀ (w : List Int) (x : Nat → Int) (h : Nat), sS w x h = sI w.length fun k => if gN w k = h then x k else 0
  | [], _, _ => rfl
  | z :: w, x, h => by
    rw [List.length_cons, sI_succ']
    show (if z.natAbs = h then x 0 else 0) + sS w (fun k => x (k + 1)) h = _
    rw [sS_sum w (fun k => x (k + 1)) h]
    rfl
theorem qh_bil : ∀ (w : List Int) (x l : Nat → Int), qh w x l = bil w.length (Bm w) x x + 2 * sI w.length fun k => x k * l (gN w k)
  | [], _, _ => rfl
  | z :: w, x, l => by
    rw [qh_cons, qh_up, qh_bil w, sS_sum, List.length_cons, sI_succ']
    have e0 : Bm (z :: w) 0 0 = -sgl z := if_pos rfl
    have e1 : ∀ k, Bm (z :: w) 0 (k + 1) = if gN w k = z.natAbs + 1 then 1 else 0 := fun k => by
      have g0 : gN (z :: w) 0 = z.natAbs := rfl
      have g1 : gN (z :: w) (k + 1) = gN w k := rfl
      unfold Bm
      rw [if_neg (by omega), g0, g1]
      by_cases h : gN w k = z.natAbs + 1
      · rw [if_pos h, if_pos (Or.inl ⟨by omega, h⟩)]
      · rw [if_neg h, if_neg]
        rintro (⟨-, h'⟩ | ⟨h', -⟩)
        · exact h h'
        · omega
    have e2 : ∀ k j, Bm (z :: w) (k + 1) (j + 1) = Bm w k j := fun k j => by
      unfold Bm
      by_cases h : k = j
      · subst h; rw [if_pos rfl, if_pos rfl]; rfl
      · rw [if_neg h, if_neg (by omega)]
        have g1 : gN (z :: w) (j + 1) = gN w j := rfl
        have g2 : gN (z :: w) (k + 1) = gN w k := rfl
        rw [g1, g2]
        by_cases h2 : (k < j ∧ gN w j = gN w k + 1) ∨ (j < k ∧ gN w k = gN w j + 1)
        · rw [if_pos h2, if_pos (by omega)]
        · rw [if_neg h2, if_neg (by omega)]
    have b : bil (w.length + 1) (Bm (z :: w)) x x = -sgl z * (x 0 * x 0) + 2 * (x 0 * sI w.length fun k => if gN w k = z.natAbs + 1 then x (k + 1) else 0) + bil w.length (Bm w) (fun k => x (k + 1)) fun k => x (k + 1) := by
      unfold bil
      rw [sI_succ', sI_succ', e0]
      have s1 : (sI w.length fun k => Bm (z :: w) 0 (k + 1) * x (k + 1)) = sI w.length fun k => if gN w k = z.natAbs + 1 then x (k + 1) else 0 := sI_congr fun k _ => by
        rw [e1]; split
        · rw [Int.one_mul]
        · rw [Int.zero_mul]
      have s2 : (sI w.length fun k => x (k + 1) * sI (w.length + 1) fun j => Bm (z :: w) (k + 1) j * x j) = x 0 * (sI w.length fun k => if gN w k = z.natAbs + 1 then x (k + 1) else 0) + sI w.length fun k => x (k + 1) * sI w.length fun j => Bm w k j * x (j + 1) := by
        rw [← sI_mul, ← sI_add]
        refine sI_congr fun k _ => ?_
        rw [sI_succ', Bm_comm, e1, sI_congr (g := fun j => Bm w k j * x (j + 1)) fun j _ => by rw [e2]]
        split <;> grind
      rw [s1, s2]
      grind
    rw [b]
    have g0 : gN (z :: w) 0 = z.natAbs := rfl
    have g1 : (sI w.length fun k => x (k + 1) * l (gN (z :: w) (k + 1))) = sI w.length fun k => x (k + 1) * l (gN w k) := rfl
    rw [g0, g1]
    grind

/-! ### loops -/
theorem lsS_ge (ws : List Int) (g : Nat) : ∀ {k j : Nat}, j < k → isG ws g j → (j : Int) ≤ lsS ws g k
  | k + 1, j, hj, hG => by
    rw [lsS]
    split
    · omega
    · rename_i h
      by_cases e : j = k
      · subst e; exact absurd hG h
      · exact lsS_ge ws g (by omega) hG
theorem ocS_last (ws : List Int) (g : Nat) : ∀ k, ∀ d ∈ ocS ws g k, 0 ≤ lsS ws g d.q ∧ (d.p : Int) = lsS ws g d.q
  | 0 => fun d hd => by simp [ocS] at hd
  | k + 1 => fun d hd => by
    have ih := ocS_last ws g k d
    rw [ocS] at hd
    split at hd
    · split at hd
      · rename_i h0
        rcases List.mem_append.1 hd with h | h
        · exact ih h
        · rw [List.mem_singleton] at h
          subst h
          exact ⟨h0, by show (((lsS ws g k).toNat : Nat) : Int) = lsS ws g k; omega⟩
      · exact ih hd
    · exact ih hd
theorem lpS_last (ws : List Int) : ∀ n, ∀ d ∈ lpS ws n, 0 ≤ lsS ws d.g d.q ∧ (d.p : Int) = lsS ws d.g d.q
  | 0 => fun d hd => by simp [lpS] at hd
  | n + 1 => fun d hd => by
    rw [lpS] at hd
    rcases List.mem_append.1 hd with h | h
    · exact lpS_last ws n d h
    · obtain ⟨a, -⟩ := ocS_mem ws (n + 1) ws.length d h
      rw [a]
      exact ocS_last ws (n + 1) ws.length d h
theorem isG_gN {ws : List Int} {g k : Nat} (h : isG ws g k) : gN ws k = g := by
  unfold gN
  rcases h with h | h <;> rw [h] <;> omega
/-- a loop is known by each of its ends -/
theorem lp_same {ws : List Int} {n : Nat} {x y : Lp} (hx : x ∈ lpS ws n) (hy : y ∈ lpS ws n) (hg : x.g = y.g) (h : x.p = y.p ∨ x.q = y.q) : x = y := by
  obtain ⟨-, -, x1, x2, x3, x4⟩ := lpS_mem ws n x hx
  obtain ⟨-, -, y1, y2, y3, y4⟩ := lpS_mem ws n y hy
  obtain ⟨x5, x6⟩ := lpS_last ws n x hx
  obtain ⟨y5, y6⟩ := lpS_last ws n y hy
  rw [← hg] at y3 y4 y5 y6
  have hq : x.q = y.q := by
    rcases h with h | h
    · rcases Nat.lt_trichotomy x.q y.q with e | e | e
      · have := lsS_ge ws x.g e x4; omega
      · exact e
      · have := lsS_ge ws x.g e y4; omega
    · exact h
  have hp : x.p = y.p := by rw [hq] at x6; omega
  cases x; cases y
  simp_all
theorem ocS_nodup (ws : List Int) (g : Nat) : ∀ k, (ocS ws g k).Nodup
  | 0 => by simp [ocS]
  | k + 1 => by
    have ih := ocS_nodup ws g k
    rw [ocS]
    split
    · split
      · refine List.nodup_append.2 ⟨ih, by simp, fun a ha b hb e => ?_⟩
        rw [List.mem_singleton] at hb
        have := (ocS_mem ws g k a ha).2.2.1
        rw [e, hb] at this
        exact absurd this (Nat.lt_irrefl k)
      · exact ih
    · exact ih
theorem lpS_nodup (ws : List Int) : ∀ n, (lpS ws n).Nodup
  | 0 => by simp [lpS]
  | n + 1 => by
    rw [lpS]
    refine List.nodup_append.2 ⟨lpS_nodup ws n, ocS_nodup ws _ _, fun a ha b hb e => ?_⟩
    have h1 := (lpS_mem ws n a ha).2.1
    have h2 := (ocS_mem ws (n + 1) ws.length b hb).1
    rw [e] at h1
    omega
/-- as many loops as letters, but for one of each generator -/
theorem ocS_count (ws : List Int) (g : Nat) : ∀ k, (ocS ws g k).length + (if 0 ≤ lsS ws g k then 1 else 0) = cB k fun j => decide (isG ws g j)
  | 0 => rfl
  | k + 1 => by
    have ih := ocS_count ws g k
    rw [ocS, lsS, cB]
    by_cases h : isG ws g k
    · rw [if_pos h, if_pos h, if_pos (show (0 : Int) ≤ (k : Int) by omega), if_pos (decide_eq_true h)]
      by_cases h0 : 0 ≤ lsS ws g k
      · rw [if_pos h0] at ih ⊢
        rw [List.length_append, List.length_singleton]
        omega
      · rw [if_neg h0] at ih ⊢
        omega
    · rw [if_neg h, if_neg h, if_neg (show ¬ decide (isG ws g k) = true by simpa using h), Nat.add_zero]
      exact ih
theorem lpS_count (ws : List Int) : ∀ m, Occ ws m → (lpS ws m).length + m = cB ws.length fun j => decide (1 ≤ gN ws j ∧ gN ws j ≤ m)
  | 0, _ => by
    rw [cB_congr (g := fun _ => false) fun j _ => decide_eq_false (by omega), cB_no]; rfl
  | m + 1, h => by
    have ih := lpS_count ws m fun g h1 h2 => h g h1 (by omega)
    have hc := ocS_count ws (m + 1) ws.length
    rw [if_pos (h (m + 1) (by omega) (Nat.le_refl _))] at hc
    have key : ∀ N, (cB N fun j => decide (1 ≤ gN ws j ∧ gN ws j ≤ m)) + (cB N fun j => decide (isG ws (m + 1) j)) = cB N fun j => decide (1 ≤ gN ws j ∧ gN ws j ≤ m + 1) := fun N => by
      induction N with
      | zero => rfl
      | succ N ihN =>
        rw [cB, cB, cB, ← ihN]
        have e : isG ws (m + 1) N ↔ gN ws N = m + 1 := ⟨isG_gN, fun h => by unfold gN at h; unfold isG; omega⟩
        by_cases h1 : 1 ≤ gN ws N ∧ gN ws N ≤ m
        · rw [if_pos (decide_eq_true h1), if_neg (by rw [decide_eq_true_iff, e]; omega), if_pos (decide_eq_true (by omega))]; omega
        · by_cases h2 : gN ws N = m + 1
          · rw [if_neg (by simpa using h1), if_pos (decide_eq_true (e.2 h2)), if_pos (decide_eq_true (by omega))]; omega
          · rw [if_neg (by simpa using h1), if_neg (by rw [decide_eq_true_iff, e]; exact h2), if_neg (by rw [decide_eq_true_iff]; omega)]; omega
    rw [lpS, List.length_append, ← key, ← ih, ← hc]
    omega
/-- the form of two loops -/
def Glp (ws : List Int) (x y : Lp) : Int := Bm ws x.p y.p - Bm ws x.p y.q - Bm ws x.q y.p + Bm ws x.q y.q
theorem Bm_same {ws : List Int} {k l : Nat} (h : gN ws k = gN ws l) (hne : k ≠ l) : Bm ws k l = 0 := by
  unfold Bm
  rw [if_neg hne, if_neg (by omega)]
theorem Bm_next {ws : List Int} {k l : Nat} (h : gN ws l = gN ws k + 1) : Bm ws k l = if k < l then 1 else 0 := by
  unfold Bm
  rw [if_neg (by intro e; subst e; omega)]
  by_cases h1 : k < l
  · rw [if_pos h1, if_pos (.inl ⟨h1, h⟩)]
  · rw [if_neg h1, if_neg (by omega)]
theorem Bm_far {ws : List Int} {k l : Nat} (h1 : gN ws l ≠ gN ws k) (h2 : gN ws l ≠ gN ws k + 1) (h3 : gN ws k ≠ gN ws l + 1) : Bm ws k l = 0 := by
  unfold Bm
  rw [if_neg (by intro e; subst e; exact h1 rfl), if_neg (by omega)]
theorem Glp_comm (ws : List Int) (x y : Lp) : Glp ws x y = Glp ws y x := by
  unfold Glp
  rw [Bm_comm ws x.p y.p, Bm_comm ws x.p y.q, Bm_comm ws x.q y.p, Bm_comm ws x.q y.q]
  omega
theorem gm_next {ws : List Int} {n : Nat} {x y : Lp} (hx : x ∈ lpS ws n) (hy : y ∈ lpS ws n) (hg : y.g = x.g + 1) : Glp ws x y = elS ws x y + elS ws y x := by
  obtain ⟨-, -, x1, x2, x3, x4⟩ := lpS_mem ws n x hx
  obtain ⟨-, -, y1, y2, y3, y4⟩ := lpS_mem ws n y hy
  have a1 := isG_gN x3
  have a2 := isG_gN x4
  have a3 := isG_gN y3
  have a4 := isG_gN y4
  have d1 : x.p ≠ y.p := fun e => by rw [e, a3] at a1; omega
  have d2 : x.p ≠ y.q := fun e => by rw [e, a4] at a1; omega
  have d3 : x.q ≠ y.p := fun e => by rw [e, a3] at a2; omega
  have d4 : x.q ≠ y.q := fun e => by rw [e, a4] at a2; omega
  have hxy : ¬ x = y := fun e => by rw [e] at hg; omega
  unfold Glp
  rw [Bm_next (by omega), Bm_next (by omega), Bm_next (by omega), Bm_next (by omega)]
  have e1 : elS ws y x = 0 := by
    unfold elS
    rw [if_neg (Ne.symm hxy), if_neg (by omega), if_neg (by omega), if_neg (by omega), if_neg (by omega)]
  have e2 : elS ws x y = if x.p < y.p ∧ y.p < x.q ∧ x.q < y.q then 1 else if y.p < x.p ∧ x.p < y.q ∧ y.q < x.q then -1 else 0 := by
    unfold elS
    rw [if_neg hxy, if_neg (by omega), if_neg (by omega)]
    by_cases h1 : x.p < y.p ∧ y.p < x.q ∧ x.q < y.q
    · rw [if_pos ⟨hg, h1⟩, if_pos h1]
    · rw [if_neg fun h => h1 h.2, if_neg h1]
      by_cases h2 : y.p < x.p ∧ x.p < y.q ∧ y.q < x.q
      · rw [if_pos ⟨hg, h2⟩, if_pos h2]
      · rw [if_neg fun h => h2 h.2, if_neg h2]
  rw [e1, e2]
  (repeat' split) <;> omega
theorem gm_el {ws : List Int} {n : Nat} {x y : Lp} (hx : x ∈ lpS ws n) (hy : y ∈ lpS ws n) : Glp ws x y = elS ws x y + elS ws y x := by
  obtain ⟨x0, -, x1, x2, x3, x4⟩ := lpS_mem ws n x hx
  obtain ⟨y0, -, y1, y2, y3, y4⟩ := lpS_mem ws n y hy
  have a1 := isG_gN x3
  have a2 := isG_gN x4
  have a3 := isG_gN y3
  have a4 := isG_gN y4
  by_cases hxy : x = y
  · subst hxy
    have n1 : gi ws x.p ≠ 0 := by intro e; unfold gN at a1; rw [e] at a1; simp at a1; omega
    have n2 : gi ws x.q ≠ 0 := by intro e; unfold gN at a2; rw [e] at a2; simp at a2; omega
    unfold Glp
    rw [Bm_same (k := x.p) (l := x.q) (by omega) (by omega), Bm_same (k := x.q) (l := x.p) (by omega) (by omega)]
    have e1 : ∀ k, Bm ws k k = -sgl (gi ws k) := fun k => if_pos rfl
    rw [e1, e1]
    unfold elS sgl
    rw [if_pos rfl]
    (repeat' split) <;> omega
  · by_cases hg : x.g = y.g
    · have p1 : x.p ≠ y.p := fun e => hxy (lp_same hx hy hg (.inl e))
      have p2 : x.q ≠ y.q := fun e => hxy (lp_same hx hy hg (.inr e))
      unfold Glp
      rw [Bm_same (k := x.p) (l := y.p) (by omega) p1, Bm_same (k := x.q) (l := y.q) (by omega) p2]
      have n1 : gi ws x.p ≠ 0 := by intro e; unfold gN at a1; rw [e] at a1; simp at a1; omega
      have n2 : gi ws x.q ≠ 0 := by intro e; unfold gN at a2; rw [e] at a2; simp at a2; omega
      have e1 : ∀ k, Bm ws k k = -sgl (gi ws k) := fun k => if_pos rfl
      by_cases h1 : x.q = y.p
      · have f1 : elS ws x y = if gi ws x.q < 0 then -1 else 0 := by
          unfold elS
          rw [if_neg hxy, if_pos (And.intro hg h1)]
        have f2 : elS ws y x = if 0 < gi ws x.q then 1 else 0 := by
          unfold elS
          rw [if_neg (Ne.symm hxy), if_neg (fun h : y.g = x.g ∧ y.q = x.p => by omega), if_pos (And.intro hg.symm h1.symm), h1]
        rw [Bm_same (k := x.p) (l := y.q) (by omega) (by omega), ← h1, e1, f1, f2]
        unfold sgl
        (repeat' split) <;> omega
      · by_cases h2 : x.p = y.q
        · have f1 : elS ws x y = if 0 < gi ws x.p then 1 else 0 := by
            unfold elS
            rw [if_neg hxy, if_neg (fun h : x.g = y.g ∧ x.q = y.p => h1 h.2), if_pos (And.intro hg h2)]
          have f2 : elS ws y x = if gi ws x.p < 0 then -1 else 0 := by
            unfold elS
            rw [if_neg (Ne.symm hxy), if_pos (And.intro hg.symm h2.symm), h2]
          rw [Bm_same (k := x.q) (l := y.p) (by omega) (by omega), ← h2, e1, f1, f2]
          unfold sgl
          (repeat' split) <;> omega
        · rw [Bm_same (k := x.p) (l := y.q) (by omega) h2, Bm_same (k := x.q) (l := y.p) (by omega) h1]
          unfold elS
          rw [if_neg hxy, if_neg fun h => h1 h.2, if_neg fun h => h2 h.2, if_neg (by omega), if_neg (by omega), if_neg (Ne.symm hxy), if_neg fun h => h2 h.2.symm, if_neg fun h => h1 h.2.symm, if_neg (by omega), if_neg (by omega)]
          rfl
    · by_cases h1 : y.g = x.g + 1
      · exact gm_next hx hy h1
      · by_cases h2 : x.g = y.g + 1
        · rw [Glp_comm, gm_next hy hx h2, Int.add_comm]
        · unfold Glp
          rw [Bm_far (by omega) (by omega) (by omega), Bm_far (by omega) (by omega) (by omega), Bm_far (by omega) (by omega) (by omega), Bm_far (by omega) (by omega) (by omega)]
          unfold elS
          rw [if_neg hxy, if_neg fun h => hg h.1, if_neg fun h => hg h.1, if_neg fun h => h1 h.1, if_neg fun h => h1 h.1, if_neg (Ne.symm hxy), if_neg fun h => hg h.1.symm, if_neg fun h => hg h.1.symm, if_neg fun h => h2 h.1, if_neg fun h => h2 h.1]
          rfl
end Go.Proofs.Yteanhbldhaiekaa
