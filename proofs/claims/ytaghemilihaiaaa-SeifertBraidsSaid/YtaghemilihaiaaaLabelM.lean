/-
  The search that numbers the graph components: what it keeps, step by step. No program here.
-/
import Derived.Test.YtaghemilihaiaaaLab
namespace Go.Proofs.Ytaghemilihaiaaa

def labAt (mt : List Int) (n c : Nat) : Nat := gN (labN mt n) c
def idxAt (mt : List Int) (n r : Nat) : Nat := idxN (labN mt n) r

/-- ahead of crossing k: the components that begin below k are numbered -/
structure OutI (mt : List Int) (n k : Nat) (p : List Int) : Prop where
  len : p.length = n
  val : ∀ x, x < n → (labAt mt n x < k → gi p x = (idxAt mt n (labAt mt n x) : Int)) ∧ (k ≤ labAt mt n x → gi p x = -1)

/-- inside the search from k: q is the queue, (a, s) the crossing in hand and its first slot that was not looked at -/
structure BI (mt : List Int) (n k : Nat) (p : List Int) (q : List Nat) (a s : Nat) : Prop where
  len : p.length = n
  val : ∀ x, x < n → (labAt mt n x < k → gi p x = (idxAt mt n (labAt mt n x) : Int)) ∧ (k < labAt mt n x → gi p x = -1) ∧ (labAt mt n x = k → gi p x = -1 ∨ gi p x = (idxAt mt n k : Int))
  start : gi p k = (idxAt mt n k : Int)
  qv : ∀ x, x ∈ q → x < n ∧ labAt mt n x = k ∧ gi p x = (idxAt mt n k : Int)
  closed : ∀ x, x < n → labAt mt n x = k → gi p x = (idxAt mt n k : Int) → x ∉ q → ∀ t, t < 4 → (x = a ∧ s ≤ t) ∨ gi p (gn mt (4 * x + t) / 4) = (idxAt mt n k : Int)

def negs (p : List Int) : Nat := p.countP fun x => decide (x < 0)
theorem negs_le (p : List Int) : negs p ≤ p.length := List.countP_le_length
theorem negs_set {p : List Int} {i : Nat} {y : Int} (hi : i < p.length) (h : gi p i < 0) (hy : 0 ≤ y) : negs (p.set i y) + 1 = negs p := by
  unfold negs
  have h1 : decide (p[i] < 0) = true := by rw [← gi_lt hi]; exact decide_eq_true h
  have h2 : decide (y < 0) = false := decide_eq_false (by omega)
  have h3 : 0 < p.countP fun x => decide (x < 0) := List.countP_pos_iff.2 ⟨p[i], List.getElem_mem hi, h1⟩
  rw [List.countP_set hi]
  simp only [h1, h2]
  simp
  omega

section
variable {mt : List Int} (hI : InvM mt) {n : Nat} (hn : mt.length = 4 * n)
include hI hn

theorem outI_pass {k : Nat} {p : List Int} (hk : k < n) (h : OutI mt n k p) (h0 : 0 ≤ gi p k) : OutI mt n (k + 1) p ∧ idxAt mt n (k + 1) = idxAt mt n k := by
  have hlk : labAt mt n k < k := by
    rcases Nat.lt_or_ge (labAt mt n k) k with h1 | h1
    · exact h1
    · have := (h.val k hk).2 h1; omega
  have hno : ∀ x, x < n → labAt mt n x ≠ k := by
    intro x hx e
    have : labAt mt n (labAt mt n x) = labAt mt n x := lab_lab hI hn hx
    rw [e] at this
    omega
  refine ⟨⟨h.len, fun x hx => ⟨fun h1 => (h.val x hx).1 (by have := hno x hx; omega), fun h1 => (h.val x hx).2 (by omega)⟩⟩, ?_⟩
  unfold idxAt
  rw [idxN_succ, if_neg (by have : gN (labN mt n) k = labAt mt n k := rfl; omega), Nat.add_zero]

theorem outI_rep {k : Nat} {p : List Int} (hk : k < n) (h : OutI mt n k p) (h0 : ¬ 0 ≤ gi p k) : labAt mt n k = k ∧ gi p k = -1 ∧ idxAt mt n (k + 1) = idxAt mt n k + 1 := by
  have hle : labAt mt n k ≤ k := lab_le hI hn hk
  have hl : labAt mt n k = k := by
    rcases Nat.lt_or_ge (labAt mt n k) k with h1 | h1
    · have := (h.val k hk).1 h1; omega
    · omega
  refine ⟨hl, (h.val k hk).2 (by omega), ?_⟩
  unfold idxAt
  rw [idxN_succ, if_pos (show gN (labN mt n) k = k from hl)]

theorem bi_start {k : Nat} {p : List Int} (hk : k < n) (h : OutI mt n k p) (h0 : ¬ 0 ≤ gi p k) : BI mt n k (p.set k (idxAt mt n k : Int)) [k] n 4 := by
  obtain ⟨hl, hp, _⟩ := outI_rep hI hn hk h h0
  have hkp : k < p.length := by rw [h.len]; exact hk
  have hs : ∀ x, gi (p.set k (idxAt mt n k : Int)) x = if x = k then (idxAt mt n k : Int) else gi p x := fun x => gi_set hkp
  refine ⟨by simp [h.len], fun x hx => ?_, by rw [hs, if_pos rfl], fun x hx => ?_, fun x hx h1 h2 h3 => ?_⟩
  · rw [hs]
    by_cases e : x = k
    · subst e
      rw [if_pos rfl]
      exact ⟨fun h => by omega, fun h => by omega, fun _ => .inr rfl⟩
    · rw [if_neg e]
      exact ⟨(h.val x hx).1, fun h1 => (h.val x hx).2 (by omega), fun h1 => .inl ((h.val x hx).2 (by omega))⟩
  · have : x = k := by simpa using hx
    subst this
    exact ⟨hk, hl, by rw [hs, if_pos rfl]⟩
  · exfalso
    rw [hs] at h2
    have hne : x ≠ k := by simpa using h3
    rw [if_neg hne] at h2
    have := (h.val x hx).2 (by omega)
    omega

omit hI hn in
theorem bi_pop {k : Nat} {p : List Int} {x a : Nat} {q : List Nat} (h : BI mt n k p (x :: q) a 4) : BI mt n k p q x 0 := by
  refine ⟨h.len, h.val, h.start, fun y hy => h.qv y (List.mem_cons_of_mem _ hy), fun y hy h1 h2 h3 t ht => ?_⟩
  by_cases e : y = x
  · exact .inl ⟨e, Nat.zero_le _⟩
  · rcases h.closed y hy h1 h2 (by simp [e, h3]) t ht with ⟨_, h4⟩ | h4
    · omega
    · exact .inr h4

theorem bi_to {k : Nat} {p : List Int} {a s : Nat} {q : List Nat} (_h : BI mt n k p q a s) (ha : a < n) (hl : labAt mt n a = k) (hs : s < 4) : gn mt (4 * a + s) / 4 < n ∧ labAt mt n (gn mt (4 * a + s) / 4) = k ∧ 4 * a + s < mt.length := by
  have hh : 4 * a + s < mt.length := by omega
  have := (hI.gn hh).2.1
  have e := lab_mate hI hn hh
  rw [show (4 * a + s) / 4 = a by omega] at e
  exact ⟨by omega, by unfold labAt at hl ⊢; rw [← e]; exact hl, hh⟩

theorem bi_seen {k : Nat} {p : List Int} {a s : Nat} {q : List Nat} (h : BI mt n k p q a s) (ha : a < n) (hl : labAt mt n a = k) (hs : s < 4) (h0 : 0 ≤ gi p (gn mt (4 * a + s) / 4)) : BI mt n k p q a (s + 1) := by
  obtain ⟨h1, h2, _⟩ := bi_to hI hn h ha hl hs
  have e : gi p (gn mt (4 * a + s) / 4) = (idxAt mt n k : Int) := by
    rcases (h.val _ h1).2.2 h2 with e | e
    · omega
    · exact e
  refine ⟨h.len, h.val, h.start, h.qv, fun y hy g1 g2 g3 t ht => ?_⟩
  rcases h.closed y hy g1 g2 g3 t ht with ⟨g4, g5⟩ | g4
  · by_cases et : t = s
    · subst et g4; exact .inr e
    · exact .inl ⟨g4, by omega⟩
  · exact .inr g4

theorem bi_new {k : Nat} {p : List Int} {a s : Nat} {q : List Nat} (h : BI mt n k p q a s) (ha : a < n) (hl : labAt mt n a = k) (hs : s < 4) (h0 : ¬ 0 ≤ gi p (gn mt (4 * a + s) / 4)) :
    BI mt n k (p.set (gn mt (4 * a + s) / 4) (idxAt mt n k : Int)) (q ++ [gn mt (4 * a + s) / 4]) a (s + 1) := by
  obtain ⟨h1, h2, _⟩ := bi_to hI hn h ha hl hs
  generalize ht : gn mt (4 * a + s) / 4 = to at *
  have hkp : to < p.length := by rw [h.len]; exact h1
  have hset : ∀ x, gi (p.set to (idxAt mt n k : Int)) x = if x = to then (idxAt mt n k : Int) else gi p x := fun x => gi_set hkp
  have hmono : ∀ x, gi p x = (idxAt mt n k : Int) → gi (p.set to (idxAt mt n k : Int)) x = (idxAt mt n k : Int) := fun x hx => by
    rw [hset]; split
    · rfl
    · exact hx
  refine ⟨by simp [h.len], fun x hx => ?_, hmono _ h.start, fun x hx => ?_, fun y hy g1 g2 g3 t ht' => ?_⟩
  · rw [hset]
    by_cases e : x = to
    · subst e
      rw [if_pos rfl]
      exact ⟨fun h => by omega, fun h => by omega, fun _ => .inr rfl⟩
    · rw [if_neg e]; exact h.val x hx
  · rcases List.mem_append.1 hx with hx | hx
    · obtain ⟨a1, a2, a3⟩ := h.qv x hx
      exact ⟨a1, a2, hmono _ a3⟩
    · have : x = to := by simpa using hx
      subst this
      exact ⟨h1, h2, by rw [hset, if_pos rfl]⟩
  · have hne : y ≠ to := by
      rintro rfl; exact g3 (by simp)
    have hnq : y ∉ q := fun hm => g3 (by simp [hm])
    rw [hset, if_neg hne] at g2
    rcases h.closed y hy g1 g2 hnq t ht' with ⟨g4, g5⟩ | g4
    · by_cases et : t = s
      · subst et g4
        right
        rw [ht, hset, if_pos rfl]
      · exact .inl ⟨g4, by omega⟩
    · exact .inr (hmono _ g4)

theorem bi_next {k : Nat} {p : List Int} {a : Nat} (hk : k < n) (hlk : labAt mt n k = k) (h : BI mt n k p [] a 4) : OutI mt n (k + 1) p := by
  have hall : ∀ x, Cn mt k x → gi p x = (idxAt mt n k : Int) := by
    intro x hx
    induction hx with
    | refl => exact h.start
    | @step d g hd hl he ih =>
      have hdn := hd.lt hI hn hk
      have hld : labAt mt n d = k := by
        have := lab_eq_of_cn hI hn hk hd
        unfold labAt at hlk ⊢
        omega
      rcases h.closed d hdn hld ih (by simp) (g % 4) (by omega) with ⟨_, h4⟩ | h4
      · omega
      · rw [show 4 * d + g % 4 = g by omega] at h4
        exact h4
  refine ⟨h.len, fun x hx => ⟨fun h1 => ?_, fun h1 => (h.val x hx).2.1 (by omega)⟩⟩
  rcases Nat.lt_or_eq_of_le (Nat.le_of_lt_succ h1) with h2 | h2
  · exact (h.val x hx).1 h2
  · rw [h2]
    refine hall x (cn_of_lab_eq hI hn hk hx ?_)
    unfold labAt at hlk h2
    omega
end
/-- the numbers of the components, crossing by crossing -/
def partL (mt : List Int) (n : Nat) : List Int := (List.range n).map fun c => (idxAt mt n (labAt mt n c) : Int)
theorem partL_length (mt : List Int) (n : Nat) : (partL mt n).length = n := by simp [partL]
theorem gi_partL {mt : List Int} {n c : Nat} (hc : c < n) : gi (partL mt n) c = (idxAt mt n (labAt mt n c) : Int) := by simp [gi, partL, hc]
theorem outI_end {mt : List Int} (hI : InvM mt) {n : Nat} (hn : mt.length = 4 * n) {p : List Int} (h : OutI mt n n p) : p = partL mt n := by
  apply ext_gi
  · rw [h.len, partL_length]
  · intro c hc
    rw [h.len] at hc
    rw [gi_partL hc]
    exact (h.val c hc).1 (lab_least hI hn hc).2.2
theorem outI_start {mt : List Int} {n : Nat} {p : List Int} (hl : p.length = n) (h : ∀ x, x < n → gi p x = -1) : OutI mt n 0 p :=
  ⟨hl, fun x hx => ⟨fun h => by omega, fun _ => h x hx⟩⟩
end Go.Proofs.Ytaghemilihaiaaa

