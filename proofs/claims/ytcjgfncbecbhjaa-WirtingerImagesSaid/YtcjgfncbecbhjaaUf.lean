/-
  A union-find forest in a row of ints; what is joined by edges; numbers of classes. No program here.
-/
import Derived.Test.YtcjgfncbecbhjaaCls
namespace Go.Proofs.Ytcjgfncbecbhjaa

/-- p is a forest over N elements: R the roots, d falls along the parents -/
structure UF (N : Nat) (p : List Int) (R d : Nat → Nat) : Prop where
  len : p.length = N
  gi_ : ∀ x, x < N → gi p x = (gn p x : Int)
  lt : ∀ x, x < N → gn p x < N
  R_ : ∀ x, x < N → R (gn p x) = R x
  root : ∀ x, x < N → (gn p x = x ↔ R x = x)
  Rlt : ∀ x, x < N → R x < N
  RR : ∀ x, x < N → R (R x) = R x
  fall : ∀ x, x < N → gn p x ≠ x → d (gn p x) < d x
  dR : ∀ x, x < N → R x ≠ x → d (R x) < d x

theorem gn_set {p : List Int} {x y z : Nat} (hx : x < p.length) : gn (p.set x (y : Int)) z = if z = x then y else gn p z := by
  unfold gn
  by_cases h : z = x
  · subst h; simp [gi, hx]
  · simp only [h, if_false]
    unfold gi
    rw [List.getD_eq_getElem?_getD, List.getD_eq_getElem?_getD, List.getElem?_set_ne (fun e => h e.symm)]
theorem gi_set' {p : List Int} {x y z : Nat} (hx : x < p.length) : gi (p.set x (y : Int)) z = if z = x then (y : Int) else gi p z := by
  by_cases h : z = x
  · subst h; simp [gi, hx]
  · simp only [h, if_false]
    unfold gi
    rw [List.getD_eq_getElem?_getD, List.getD_eq_getElem?_getD, List.getElem?_set_ne (fun e => h e.symm)]

theorem UF.start {p : List Int} {N : Nat} (hl : p.length = N) (h : ∀ x, x < N → gi p x = (x : Int)) : UF N p (fun x => x) (fun _ => 0) := by
  have e : ∀ x, x < N → gn p x = x := fun x hx => by unfold gn; rw [h x hx]; rfl
  exact ⟨hl, fun x hx => by rw [e x hx]; exact h x hx, fun x hx => by rw [e x hx]; exact hx, fun x hx => e x hx, fun x hx => ⟨fun _ => rfl, fun _ => e x hx⟩, fun x hx => hx, fun _ _ => rfl,
    fun x hx hne => absurd (e x hx) hne, fun x _ hne => absurd rfl hne⟩

/-- a path is made short -/
theorem UF.short {N : Nat} {p : List Int} {R d : Nat → Nat} (h : UF N p R d) {x : Nat} (hx : x < N) : UF N (p.set x (R x : Int)) R d := by
  have hl : x < p.length := by rw [h.len]; exact hx
  have key : ∀ (P : Nat → Nat → Prop), P x (R x) → (∀ z, z < N → P z (gn p z)) → ∀ z, z < N → P z (gn (p.set x (R x : Int)) z) := by
    intro P h1 h2 z hz
    rw [gn_set hl]
    split
    · rename_i e; rw [e]; exact h1
    · exact h2 z hz
  refine ⟨by rw [List.length_set]; exact h.len, ?_, ?_, ?_, ?_, h.Rlt, h.RR, ?_, h.dR⟩
  · intro z hz
    rw [gn_set hl, gi_set' hl]
    split
    · rfl
    · exact h.gi_ z hz
  · exact key (fun _ v => v < N) (h.Rlt x hx) h.lt
  · exact key (fun z v => R v = R z) (h.RR x hx) h.R_
  · exact key (fun z v => (v = z ↔ R z = z)) Iff.rfl h.root
  · exact key (fun z v => v ≠ z → d v < d z) (h.dR x hx) h.fall

def uR (R : Nat → Nat) (a b x : Nat) : Nat := if R x = R a then R b else R x
def uD (R d : Nat → Nat) (a b x : Nat) : Nat := if R x = R a then d x + d (R b) + 1 else d x
/-- two trees are joined -/
theorem UF.join {N : Nat} {p : List Int} {R d : Nat → Nat} (h : UF N p R d) {a b : Nat} (ha : a < N) (hb : b < N) : UF N (p.set (R a) (R b : Int)) (uR R a b) (uD R d a b) := by
  have hA := h.Rlt a ha
  have hB := h.Rlt b hb
  have hRA := h.RR a ha
  have hRB := h.RR b hb
  have hl : R a < p.length := by rw [h.len]; exact hA
  have key : ∀ (P : Nat → Nat → Prop), P (R a) (R b) → (∀ z, z < N → z ≠ R a → P z (gn p z)) → ∀ z, z < N → P z (gn (p.set (R a) (R b : Int)) z) := by
    intro P h1 h2 z hz
    rw [gn_set hl]
    split
    · rename_i e; rw [e]; exact h1
    · exact h2 z hz (by assumption)
  refine ⟨by rw [List.length_set]; exact h.len, ?_, ?_, ?_, ?_, ?_, ?_, ?_, ?_⟩
  · intro z hz
    rw [gn_set hl, gi_set' hl]
    split
    · rfl
    · exact h.gi_ z hz
  · exact key (fun _ v => v < N) hB (fun z hz _ => h.lt z hz)
  · refine key (fun z v => uR R a b v = uR R a b z) ?_ ?_
    · unfold uR; rw [hRB, hRA]; simp
    · intro z hz _; unfold uR; rw [h.R_ z hz]
  · refine key (fun z v => (v = z ↔ uR R a b z = z)) ?_ ?_
    · unfold uR; rw [hRA]; simp
    · intro z hz hne
      unfold uR
      by_cases e : R z = R a
      · rw [if_pos e, h.root z hz, e]
        constructor
        · intro e'; exact absurd e'.symm hne
        · intro e'
          exfalso
          have : R b = R a := by rw [← e', hRB] at e; exact e
          exact hne (by rw [← e', this])
      · rw [if_neg e]; exact h.root z hz
  · intro z hz; unfold uR; split
    · exact hB
    · exact h.Rlt z hz
  · intro z hz
    unfold uR
    by_cases e : R z = R a
    · rw [if_pos e, hRB]; split <;> rfl
    · rw [if_neg e, h.RR z hz, if_neg e]
  · refine key (fun z v => v ≠ z → uD R d a b v < uD R d a b z) ?_ ?_
    · intro hne
      unfold uD
      rw [hRA, hRB, if_neg hne, if_pos rfl]
      omega
    · intro z hz _ hne
      have := h.fall z hz hne
      unfold uD
      rw [h.R_ z hz]
      split <;> omega
  · intro z hz hne
    unfold uR at hne ⊢
    unfold uD
    by_cases e : R z = R a
    · rw [if_pos e] at hne ⊢
      rw [hRB, if_pos e]
      by_cases e2 : R b = R a
      · rw [if_pos e2, e2]
        rw [e2, ← e] at hne
        have := h.dR z hz hne
        rw [e] at this
        omega
      · rw [if_neg e2]; omega
    · rw [if_neg e] at hne ⊢
      rw [h.RR z hz, if_neg e, if_neg e]
      exact h.dR z hz hne

theorem rev_rec {α : Type} {P : List α → Prop} (h0 : P []) (h1 : ∀ l a, P l → P (l ++ [a])) (l : List α) : P l := by
  have : ∀ l : List α, P l.reverse := by
    intro l
    induction l with
    | nil => exact h0
    | cons a l ih => rw [List.reverse_cons]; exact h1 _ _ ih
  have h := this l.reverse
  rwa [List.reverse_reverse] at h

/-- the classes that the edges make -/
def eqB (x y : Nat) : Bool := decide (x = y)
def jl (es : List (Nat × Nat)) : Nat → Nat → Bool := es.foldl (fun r e => joinB r e.1 e.2) eqB
theorem jl_nil : jl [] = eqB := rfl
theorem jl_snoc (es : List (Nat × Nat)) (a b : Nat) : jl (es ++ [(a, b)]) = joinB (jl es) a b := by
  unfold jl
  rw [List.foldl_append]
  rfl
theorem eqB_eqv (N : Nat) : EqvB eqB N := ⟨fun x _ => by simp [eqB], fun x y _ _ h => by simp only [eqB, decide_eq_true_eq] at h ⊢; exact h.symm, fun x y z _ _ _ h1 h2 => by simp only [eqB, decide_eq_true_eq] at h1 h2 ⊢; exact h1.trans h2⟩
def InEs (N : Nat) (es : List (Nat × Nat)) : Prop := ∀ e ∈ es, e.1 < N ∧ e.2 < N
theorem jl_eqv {N : Nat} : ∀ {es : List (Nat × Nat)}, InEs N es → EqvB (jl es) N := by
  intro es
  induction es using rev_rec with
  | h0 => intro _; exact eqB_eqv N
  | h1 es e ih =>
    intro h
    obtain ⟨a, b⟩ := e
    rw [jl_snoc]
    have he := h (a, b) (by simp)
    exact joinB_eqv (ih fun e he => h e (by simp [he])) he.1 he.2
/-- a smallest equivalence -/
theorem jl_ind {N : Nat} {Q : Nat → Nat → Prop} (hr : ∀ x, x < N → Q x x) (hs : ∀ x y, x < N → y < N → Q x y → Q y x) (ht : ∀ x y z, x < N → y < N → z < N → Q x y → Q y z → Q x z) :
    ∀ {es : List (Nat × Nat)}, InEs N es → (∀ e ∈ es, Q e.1 e.2) → ∀ x y, x < N → y < N → jl es x y = true → Q x y := by
  intro es
  induction es using rev_rec with
  | h0 =>
    intro _ _ x y hx _ h
    rw [jl_nil] at h
    simp only [eqB, decide_eq_true_eq] at h
    rw [← h]; exact hr x hx
  | h1 es e ih =>
    intro hN hQ x y hx hy h
    obtain ⟨a, b⟩ := e
    have he := hN (a, b) (by simp)
    have hq := hQ (a, b) (by simp)
    have IH := ih (fun e he => hN e (by simp [he])) (fun e he => hQ e (by simp [he]))
    rw [jl_snoc, joinB_iff] at h
    rcases h with h | ⟨h1, h2⟩ | ⟨h1, h2⟩
    · exact IH x y hx hy h
    · exact ht x a y hx he.1 hy (IH x a hx he.1 h1) (ht a b y he.1 he.2 hy hq (IH b y he.2 hy h2))
    · exact ht x b y hx he.2 hy (IH x b hx he.2 h1) (ht b a y he.2 he.1 hy (hs a b he.1 he.2 hq) (IH a y he.1 hy h2))
theorem jl_edge {N : Nat} : ∀ {es : List (Nat × Nat)}, InEs N es → ∀ e ∈ es, jl es e.1 e.2 = true := by
  intro es
  induction es using rev_rec with
  | h0 => intro _ e he; cases he
  | h1 es e ih =>
    intro hN e' he'
    obtain ⟨a, b⟩ := e
    have he := hN (a, b) (by simp)
    have hE := jl_eqv (N := N) (es := es) fun e he => hN e (by simp [he])
    rw [jl_snoc, joinB_iff]
    rcases List.mem_append.1 he' with h | h
    · exact .inl (ih (fun e he => hN e (by simp [he])) e' h)
    · obtain rfl := List.mem_singleton.1 h
      exact .inr (.inl ⟨hE.rfl_ _ he.1, hE.rfl_ _ he.2⟩)

/-- the forest holds the classes -/
structure UC (N : Nat) (es : List (Nat × Nat)) (p : List Int) (R d : Nat → Nat) : Prop where
  uf : UF N p R d
  cl : ∀ x y, x < N → y < N → (R x = R y ↔ jl es x y = true)
  es_ : InEs N es
theorem UC.start {p : List Int} {N : Nat} (hl : p.length = N) (h : ∀ x, x < N → gi p x = (x : Int)) : UC N [] p (fun x => x) (fun _ => 0) :=
  ⟨UF.start hl h, fun x y _ _ => by rw [jl_nil]; simp [eqB], fun _ he => by cases he⟩
theorem UC.join {N : Nat} {es : List (Nat × Nat)} {p : List Int} {R d : Nat → Nat} (h : UC N es p R d) {a b : Nat} (ha : a < N) (hb : b < N) : UC N (es ++ [(a, b)]) (p.set (R a) (R b : Int)) (uR R a b) (uD R d a b) := by
  refine ⟨h.uf.join ha hb, fun x y hx hy => ?_, fun e he => ?_⟩
  · rw [jl_snoc, joinB_iff, ← h.cl x y hx hy, ← h.cl x a hx ha, ← h.cl b y hb hy, ← h.cl x b hx hb, ← h.cl a y ha hy]
    unfold uR
    by_cases e1 : R x = R a <;> by_cases e2 : R y = R a <;> simp only [e1, e2, if_true, if_false]
    · simp
    · constructor
      · intro e; exact .inr (.inl ⟨trivial, e⟩)
      · rintro (e | ⟨-, e⟩ | ⟨e, e'⟩)
        · exact absurd e.symm e2
        · exact e
        · exact absurd e'.symm e2
    · constructor
      · intro e; exact .inr (.inr ⟨e, trivial⟩)
      · rintro (e | ⟨e, -⟩ | ⟨e, -⟩)
        · exact e.elim
        · exact absurd e (by simp)
        · exact e
    · constructor
      · intro e; exact .inl e
      · rintro (e | ⟨e, -⟩ | ⟨-, e⟩)
        · exact e
        · exact absurd e (by simp)
        · exact absurd e.symm e2
  · rcases List.mem_append.1 he with h1 | h1
    · exact h.es_ e h1
    · obtain rfl := List.mem_singleton.1 h1
      exact ⟨ha, hb⟩

/-! ### the numbers of the classes -/
/-- the least of x's class -/
def lo (r : Nat → Nat → Bool) (x : Nat) : Nat := ((List.range (x + 1)).find? fun m => r m x).getD 0
section
variable {r : Nat → Nat → Bool} {N : Nat} (hE : EqvB r N)
include hE
theorem lo_eq {m x : Nat} (hx : x < N) (hm : m ≤ x) (hr : r m x = true) (hh : headB r m = true) : lo r x = m := by
  unfold lo
  have : (List.range (x + 1)).find? (fun m => r m x) = some m := by
    rw [List.find?_range_eq_some]
    refine ⟨hr, by simpa using Nat.lt_succ_of_le hm, fun j hj => ?_⟩
    have := headB_iff.1 hh j hj
    cases hc : r j x
    · rfl
    · rw [hE.tr j x m (by omega) hx (by omega) hc (hE.sym m x (by omega) hx hr)] at this
      exact absurd this (by simp)
  rw [this]; rfl
theorem lo_spec {x : Nat} (hx : x < N) : lo r x ≤ x ∧ r (lo r x) x = true ∧ headB r (lo r x) = true := by
  obtain ⟨m, h1, h2, h3⟩ := head_of hE hx
  rw [lo_eq hE hx h1 h2 h3]
  exact ⟨h1, h2, h3⟩
theorem lo_congr {x y : Nat} (hx : x < N) (hy : y < N) (h : r x y = true) : lo r x = lo r y := by
  obtain ⟨h1, h2, h3⟩ := lo_spec hE hx
  have h4 := hE.tr _ _ _ (by omega) hx hy h2 h
  exact (lo_eq hE hy (head_le h3 (hE.sym _ _ (by omega) hy h4)) h4 h3).symm
theorem lo_head {x : Nat} (hx : x < N) : headB r x = true ↔ lo r x = x := by
  constructor
  · intro h; exact lo_eq hE hx (Nat.le_refl _) (hE.rfl_ x hx) h
  · intro h; have := (lo_spec hE hx).2.2; rwa [h] at this
end
/-- the number of x's class -/
def clN (r : Nat → Nat → Bool) (x : Nat) : Nat := cnt (headB r) (lo r x)
end Go.Proofs.Ytcjgfncbecbhjaa

