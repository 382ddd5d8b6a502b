/-
  What the marking loop counts: the classes of points that are connected by the arcs of two matchings. No program here.
-/
import Derived.Test.YtmmcpahaekpknaaPairM
namespace Go.Proofs.Ytmmcpahaekpknaa

/-- two points are connected by arcs of a and b -/
inductive Con (a b : List Int) (i : Nat) : Nat → Prop
  | refl : Con a b i i
  | stepA {j : Nat} (h : Con a b i j) : Con a b i (gn a j)
  | stepB {j : Nat} (h : Con a b i j) : Con a b i (gn b j)

theorem Con.trans {a b : List Int} {i j k : Nat} (h : Con a b i j) (h2 : Con a b j k) : Con a b i k := by
  induction h2 with
  | refl => exact h
  | stepA _ ih => exact ih.stepA
  | stepB _ ih => exact ih.stepB
theorem Con.swap {a b : List Int} {i j : Nat} (h : Con a b i j) : Con b a i j := by
  induction h with
  | refl => exact .refl
  | stepA _ ih => exact ih.stepB
  | stepB _ ih => exact ih.stepA

section
variable {a b : List Int} (ha : IsM a) (hb : IsM b) (hl : a.length = b.length)
include ha hb hl

theorem Con.lt {i j : Nat} (hi : i < a.length) (h : Con a b i j) : j < a.length := by
  induction h with
  | refl => exact hi
  | stepA _ ih => exact (isM_gn ha ih).1
  | stepB _ ih => rw [hl]; exact (isM_gn hb (by omega)).1
theorem Con.symm {i j : Nat} (hi : i < a.length) (h : Con a b i j) : Con a b j i := by
  induction h with
  | refl => exact .refl
  | @stepA j h ih =>
    have hj := Con.lt ha hb hl hi h
    have : Con a b (gn a j) j := by
      have := (Con.refl (a := a) (b := b) (i := gn a j)).stepA
      rwa [(isM_gn ha hj).2.2.1] at this
    exact this.trans ih
  | @stepB j h ih =>
    have hj := Con.lt ha hb hl hi h
    have : Con a b (gn b j) j := by
      have := (Con.refl (a := a) (b := b) (i := gn b j)).stepB
      rwa [(isM_gn hb (by omega)).2.2.1] at this
    exact this.trans ih

/-- what holds while points are marked from i on; s: the marks before, t: the marks now, x: the point that comes next, z: the last point marked -/
structure Mk (a b : List Int) (i : Nat) (s t : List Bool) (x z : Nat) : Prop where
  len : t.length = a.length
  mono : ∀ j, gb s j = true → gb t j = true
  con : ∀ j, j < a.length → gb t j = true → gb s j = false → Con a b i j
  iT : gb t i = true ∧ gb s i = false
  zT : gb t z = true ∧ gb s z = false ∧ z < a.length
  zi : z ≠ i
  xz : x = gn b z
  clA : ∀ j, j < a.length → gb t j = true → gb s j = false → gb t (gn a j) = true ∧ gb s (gn a j) = false
  clB : ∀ j, j < a.length → gb t j = true → gb s j = false → j ≠ i → j ≠ z → (gb t (gn b j) = true ∧ gb s (gn b j) = false) ∧ gn b j ≠ i ∧ gn b j ≠ z

def Closed (a b : List Int) (s : List Bool) : Prop := ∀ j, j < a.length → gb s j = true → gb s (gn a j) = true ∧ gb s (gn b j) = true

omit hb hl in
theorem closedA {s : List Bool} (hs : Closed a b s) {j : Nat} (hj : j < a.length) (h : gb s j = false) : gb s (gn a j) = false := by
  obtain ⟨h1, h2, h3, h4⟩ := isM_gn ha hj
  cases hq : gb s (gn a j) with
  | false => rfl
  | true =>
    have := (hs _ h1 hq).1
    rw [h3, h] at this
    cases this

omit hb hl in
theorem gb_mark {t : List Bool} (ht : t.length = a.length) {x : Nat} (hx : x < a.length) (j : Nat) :
    gb ((t.set x true).set (gn a x) true) j = if j = gn a x then true else if j = x then true else gb t j := by
  rw [gb_set (by rw [List.length_set, ht]; exact (isM_gn ha hx).1), gb_set (by omega)]

omit hb hl in
theorem mk_start {i : Nat} {s : List Bool} (hs : Closed a b s) (hsl : s.length = a.length) (hi : i < a.length) (h : gb s i = false) :
    Mk a b i s ((s.set i true).set (gn a i) true) (gn b (gn a i)) (gn a i) := by
  obtain ⟨h1, h2, h3, h4⟩ := isM_gn ha hi
  have g := gb_mark ha hsl hi
  have hA := closedA ha hs hi h
  have cases_ : ∀ j, gb ((s.set i true).set (gn a i) true) j = true → gb s j = false → j = gn a i ∨ j = i := by
    intro j hj hjs
    rw [g] at hj
    split at hj
    · left; assumption
    split at hj
    · right; assumption
    · rw [hj] at hjs; cases hjs
  refine ⟨by simpa using hsl, ?_, ?_, ?_, ?_, h2, rfl, ?_, ?_⟩
  · intro j hj
    rw [g]
    split
    · rfl
    split
    · rfl
    · exact hj
  · intro j _ hj hjs
    rcases cases_ j hj hjs with rfl | rfl
    · exact Con.refl.stepA
    · exact .refl
  · exact ⟨by rw [g]; simp, h⟩
  · exact ⟨by rw [g]; simp, hA, h1⟩
  · intro j _ hj hjs
    rcases cases_ j hj hjs with rfl | rfl
    · rw [h3]; exact ⟨by rw [g]; simp, h⟩
    · exact ⟨by rw [g]; simp, hA⟩
  · intro j _ hj hjs n1 n2
    rcases cases_ j hj hjs with e | e
    · exact absurd e n2
    · exact absurd e n1

omit ha in
theorem mk_x {i : Nat} {s t : List Bool} {x z : Nat} (h : Mk a b i s t x z) : x < a.length ∧ gn b x = z := by
  obtain ⟨h1, h2, h3, h4⟩ := isM_gn hb (show z < b.length by rw [← hl]; exact h.zT.2.2)
  rw [h.xz]
  exact ⟨by omega, h3⟩

theorem mk_step {i : Nat} {s t : List Bool} {x z : Nat} (hs : Closed a b s) (h : Mk a b i s t x z) (hx : gb t x = false) :
    Mk a b i s ((t.set x true).set (gn a x) true) (gn b (gn a x)) (gn a x) := by
  obtain ⟨hxl, hbx⟩ := mk_x hb hl h
  obtain ⟨h1, h2, h3, h4⟩ := isM_gn ha hxl
  have g := gb_mark ha h.len hxl
  have hxs : gb s x = false := by
    cases hq : gb s x with
    | false => rfl
    | true => rw [h.mono x hq] at hx; cases hx
  have hAs := closedA ha hs hxl hxs
  have hAt : gb t (gn a x) = false := by
    cases hq : gb t (gn a x) with
    | false => rfl
    | true =>
      have := (h.clA _ h1 hq hAs).1
      rw [h3, hx] at this
      cases this
  have hxi : x ≠ i := by rintro rfl; rw [h.iT.1] at hx; cases hx
  have hzi' : gn a x ≠ i := by
    intro e
    rw [e] at hAt
    rw [h.iT.1] at hAt
    cases hAt
  have cases_ : ∀ j, gb ((t.set x true).set (gn a x) true) j = true → j = gn a x ∨ j = x ∨ gb t j = true := by
    intro j hj
    rw [g] at hj
    split at hj
    · left; assumption
    split at hj
    · right; left; assumption
    · right; right; exact hj
  have up : ∀ j, gb t j = true → gb ((t.set x true).set (gn a x) true) j = true := by
    intro j hj
    rw [g]
    split
    · rfl
    split
    · rfl
    · exact hj
  have hcx : Con a b i x := by
    rw [h.xz]
    exact (h.con z h.zT.2.2 h.zT.1 h.zT.2.1).stepB
  refine ⟨by simpa using h.len, fun j hj => up j (h.mono j hj), ?_, ⟨up _ h.iT.1, h.iT.2⟩, ⟨by rw [g]; simp, hAs, h1⟩, hzi', rfl, ?_, ?_⟩
  · intro j hjl hj hjs
    rcases cases_ j hj with rfl | rfl | hj
    · exact hcx.stepA
    · exact hcx
    · exact h.con j hjl hj hjs
  · intro j hjl hj hjs
    rcases cases_ j hj with rfl | rfl | hj
    · rw [h3]; exact ⟨by rw [g]; simp, hxs⟩
    · exact ⟨by rw [g]; simp, hAs⟩
    · have := h.clA j hjl hj hjs
      exact ⟨up _ this.1, this.2⟩
  · intro j hjl hj hjs n1 n2
    rcases cases_ j hj with rfl | rfl | hj
    · exact absurd rfl n2
    · rw [hbx]
      refine ⟨⟨up _ h.zT.1, h.zT.2.1⟩, h.zi, ?_⟩
      intro e
      rw [← e, h.zT.1] at hAt
      cases hAt
    · by_cases hjz : j = z
      · subst hjz
        rw [← h.xz]
        exact ⟨⟨by rw [g]; simp, hxs⟩, hxi, fun e => h2 e.symm⟩
      · obtain ⟨⟨b1, b2⟩, b3, b4⟩ := h.clB j hjl hj hjs n1 hjz
        refine ⟨⟨up _ b1, b2⟩, b3, ?_⟩
        intro e
        rw [e, hAt] at b1
        cases b1

/-- the marking ends where it began, and has marked a whole class -/
theorem mk_end {i : Nat} {s t : List Bool} {x z : Nat} (hs : Closed a b s) (h : Mk a b i s t x z) (hx : gb t x = true) :
    (∀ j, j < a.length → (gb t j = true ↔ gb s j = true ∨ Con a b i j)) ∧ Closed a b t := by
  obtain ⟨hxl, hbx⟩ := mk_x hb hl h
  have hxs : gb s x = false := by
    cases hq : gb s x with
    | false => rfl
    | true =>
      have := (hs x hxl hq).2
      rw [hbx, h.zT.2.1] at this
      cases this
  have hxi : x = i := by
    apply Classical.byContradiction
    intro hne
    by_cases hxz : x = z
    · have := (isM_gn hb (show z < b.length by rw [← hl]; exact h.zT.2.2)).2.1
      rw [← h.xz] at this
      exact this hxz
    · have := (h.clB x hxl hx hxs hne hxz).2.2
      exact this hbx
  have clB : ∀ j, j < a.length → gb t j = true → gb s j = false → gb t (gn b j) = true ∧ gb s (gn b j) = false := by
    intro j hjl hj hjs
    by_cases h1 : j = i
    · rw [h1, ← hxi, hbx]
      exact ⟨h.zT.1, h.zT.2.1⟩
    by_cases h2 : j = z
    · rw [h2, ← h.xz, hxi]
      exact h.iT
    exact (h.clB j hjl hj hjs h1 h2).1
  have hil : i < a.length := by omega
  have all : ∀ j, Con a b i j → gb t j = true ∧ gb s j = false := by
    intro j hj
    induction hj with
    | refl => exact h.iT
    | stepA hc ih => exact h.clA _ (Con.lt ha hb hl hil hc) ih.1 ih.2
    | stepB hc ih => exact clB _ (Con.lt ha hb hl hil hc) ih.1 ih.2
  constructor
  · intro j hjl
    constructor
    · intro hj
      cases hq : gb s j with
      | true => exact .inl rfl
      | false => exact .inr (h.con j hjl hj hq)
    · rintro (hj | hj)
      · exact h.mono j hj
      · exact (all j hj).1
  · intro j hjl hj
    cases hq : gb s j with
    | true => exact ⟨h.mono _ (hs j hjl hq).1, h.mono _ (hs j hjl hq).2⟩
    | false => exact ⟨(h.clA j hjl hj hq).1, (clB j hjl hj hq).1⟩

theorem tr_go {i : Nat} {s : List Bool} (hs : Closed a b s) : ∀ (f : Nat) (t : List Bool) (x z : Nat), Mk a b i s t x z → cf t < f →
    (trF a b f t x).length = a.length ∧ (∀ j, j < a.length → (gb (trF a b f t x) j = true ↔ gb s j = true ∨ Con a b i j)) ∧ Closed a b (trF a b f t x)
  | 0, _, _, _, _, h => by omega
  | f + 1, t, x, z, hm, hf => by
    rw [trF]
    split
    · rename_i hx
      exact ⟨hm.len, mk_end ha hb hl hs hm hx⟩
    · rename_i hx
      have hx : gb t x = false := by simpa using hx
      obtain ⟨f', hf', hcf, -⟩ := trF_step (a := a) (b := b) hf (by rw [hm.len]; exact (mk_x hb hl hm).1) hx
      have : f' = f := by omega
      subst this
      exact tr_go hs f' _ _ _ (mk_step ha hb hl hs hm hx) hcf

theorem tr_marks {i : Nat} {s : List Bool} (hs : Closed a b s) (hsl : s.length = a.length) (hi : i < a.length) (h : gb s i = false) :
    (trF a b (a.length + 1) s i).length = a.length ∧ (∀ j, j < a.length → (gb (trF a b (a.length + 1) s i) j = true ↔ gb s j = true ∨ Con a b i j)) ∧ Closed a b (trF a b (a.length + 1) s i) := by
  rw [trF, if_neg (by simp [h])]
  have h1 := cf_set_lt s i (by omega) h
  have h2 := cf_set (s.set i true) (gn a i)
  have h3 := cf_le s
  exact tr_go ha hb hl hs a.length _ _ _ (mk_start ha hs hsl hi h) (by omega)

open Classical in
/-- the least points of the classes -/
noncomputable def reps (a b : List Int) : List Nat := (List.range' 0 a.length).filter fun k => decide (∀ k', k' < k → ¬ Con a b k' k)

open Classical in
theorem pr_go : ∀ (m k : Nat) (s : List Bool) (c : Nat), k + m = a.length → Closed a b s → s.length = a.length → (∀ j, j < a.length → (gb s j = true ↔ ∃ k', k' < k ∧ Con a b k' j)) →
    prL a b (List.range' k m) s c = c + ((List.range' k m).filter fun k => decide (∀ k', k' < k → ¬ Con a b k' k)).length
  | 0, k, s, c, _, _, _, _ => by simp [prL]
  | m + 1, k, s, c, hk, hs, hsl, hj => by
    have hkl : k < a.length := by omega
    rw [List.range'_succ, prL]
    split
    · rename_i h
      obtain ⟨k', h1, h2⟩ := (hj k hkl).1 h
      have hf : decide (∀ k', k' < k → ¬ Con a b k' k) = false := decide_eq_false fun hall => hall k' h1 h2
      rw [List.filter_cons, if_neg (by rw [hf]; simp)]
      apply pr_go m (k + 1) s c (by omega) hs hsl
      intro j hjl
      rw [hj j hjl]
      constructor
      · rintro ⟨q, h3, h4⟩; exact ⟨q, by omega, h4⟩
      · rintro ⟨q, h3, h4⟩
        rcases Nat.lt_or_eq_of_le (Nat.le_of_lt_succ h3) with h5 | rfl
        · exact ⟨q, h5, h4⟩
        · exact ⟨k', h1, h2.trans h4⟩
    · rename_i h
      have h : gb s k = false := by simpa using h
      have ht : decide (∀ k', k' < k → ¬ Con a b k' k) = true := decide_eq_true fun k' h1 h2 => by
        have := (hj k hkl).2 ⟨k', h1, h2⟩
        rw [h] at this
        cases this
      rw [List.filter_cons, if_pos (by rw [ht])]
      obtain ⟨t1, t2, t3⟩ := tr_marks ha hb hl hs hsl hkl h
      rw [pr_go m (k + 1) _ (c + 1) (by omega) t3 t1 ?_, List.length_cons]
      · omega
      · intro j hjl
        rw [t2 j hjl, hj j hjl]
        constructor
        · rintro (⟨q, h3, h4⟩ | h4)
          · exact ⟨q, by omega, h4⟩
          · exact ⟨k, by omega, h4⟩
        · rintro ⟨q, h3, h4⟩
          rcases Nat.lt_or_eq_of_le (Nat.le_of_lt_succ h3) with h5 | rfl
          · exact .inl ⟨q, h5, h4⟩
          · exact .inr h4

theorem pairN_reps : pairN a b = (reps a b).length := by
  unfold pairN reps
  rw [pr_go ha hb hl a.length 0 _ 0 (by omega) (fun j hj h => by rw [gb_lt (by simpa using hj)] at h; simp at h) (by simp) (fun j hj => by
    rw [gb_lt (by simpa using hj)]
    simp)]
  omega
end

theorem pairN_symm {a b : List Int} (ha : IsM a) (hb : IsM b) (hl : a.length = b.length) : pairN a b = pairN b a := by
  rw [pairN_reps ha hb hl, pairN_reps hb ha hl.symm]
  unfold reps
  rw [hl]
  congr 1
  apply List.filter_congr
  intro k _
  congr 1
  apply propext
  constructor
  · intro h k' h1 h2; exact h k' h1 h2.swap
  · intro h k' h1 h2; exact h k' h1 h2.swap

/-! ### a matching with itself -/
/-- the left ends of the arcs -/
def lefts (a : List Int) : List Nat := (List.range' 0 a.length).filter fun k => decide (k < gn a k)

theorem filter_len_lt {α : Type} {p q : α → Bool} : ∀ {l : List α}, (∀ x, x ∈ l → p x = true → q x = true) → (∃ x, x ∈ l ∧ q x = true ∧ p x = false) → (l.filter p).length < (l.filter q).length
  | [], _, ⟨x, h, _⟩ => by cases h
  | y :: l, h1, ⟨x, hx, hq, hp⟩ => by
    have hle : (l.filter p).length ≤ (l.filter q).length := by
      have h1' : ∀ x, x ∈ l → p x = true → q x = true := fun x hx => h1 x (by simp [hx])
      clear h1 hx hq hp
      induction l with
      | nil => simp
      | cons z l ih =>
        have := ih fun x hx => h1' x (by simp [hx])
        rw [List.filter_cons, List.filter_cons]
        cases hpz : p z with
        | false => cases hqz : q z <;> simp <;> omega
        | true => rw [h1' z (by simp) hpz]; simp; omega
    rw [List.filter_cons, List.filter_cons]
    rcases List.mem_cons.1 hx with rfl | hx'
    · rw [hp, hq]; simp; omega
    · have := filter_len_lt (p := p) (q := q) (fun x hx => h1 x (by simp [hx])) ⟨x, hx', hq, hp⟩
      cases hpy : p y with
      | false => cases hqy : q y <;> simp <;> omega
      | true => rw [h1 y (by simp) hpy]; simp; omega

theorem filter_not_len {α : Type} (p : α → Bool) : ∀ (l : List α), (l.filter p).length + (l.filter fun x => !p x).length = l.length
  | [] => rfl
  | y :: l => by
    have := filter_not_len p l
    rw [List.filter_cons, List.filter_cons]
    cases p y <;> simp <;> omega

theorem lefts_half {a : List Int} (ha : IsM a) : 2 * (lefts a).length = a.length := by
  have h1 := filter_not_len (fun k => decide (k < gn a k)) (List.range' 0 a.length)
  have hnd : ∀ p : Nat → Bool, ((List.range' 0 a.length).filter p).Nodup := fun p => List.Nodup.sublist List.filter_sublist (List.nodup_range' (step := 1))
  have mem : ∀ (p : Nat → Bool) k, k ∈ (List.range' 0 a.length).filter p ↔ k < a.length ∧ p k = true := by
    intro p k
    rw [List.mem_filter, List.mem_range'_1]
    constructor
    · rintro ⟨⟨_, h⟩, h2⟩; exact ⟨by omega, h2⟩
    · rintro ⟨h, h2⟩; exact ⟨⟨Nat.zero_le _, by omega⟩, h2⟩
  have inj : ∀ l : List Nat, l.Nodup → (∀ k, k ∈ l → k < a.length) → (l.map (gn a)).Nodup := by
    intro l hl hlt
    rw [List.nodup_iff_pairwise_ne] at hl ⊢
    rw [List.pairwise_map]
    refine hl.imp_of_mem fun {x y} hx hy hne e => hne ?_
    have := congrArg (gn a) e
    rwa [(isM_gn ha (hlt x hx)).2.2.1, (isM_gn ha (hlt y hy)).2.2.1] at this
  have le1 : ((List.range' 0 a.length).filter fun k => decide (k < gn a k)).length ≤ ((List.range' 0 a.length).filter fun k => !decide (k < gn a k)).length := by
    have := (inj _ (hnd _) (fun k hk => ((mem _ k).1 hk).1)).length_le_of_subset (l₂ := (List.range' 0 a.length).filter fun k => !decide (k < gn a k)) (by
      intro x hx
      obtain ⟨k, hk, rfl⟩ := List.mem_map.1 hx
      obtain ⟨h2, h3⟩ := (mem (fun k => decide (k < gn a k)) k).1 hk
      have h3 : k < gn a k := by simpa using h3
      obtain ⟨g1, g2, g3, -⟩ := isM_gn ha h2
      exact (mem _ _).2 ⟨g1, by rw [g3]; simp; omega⟩)
    rwa [List.length_map] at this
  have le2 : ((List.range' 0 a.length).filter fun k => !decide (k < gn a k)).length ≤ ((List.range' 0 a.length).filter fun k => decide (k < gn a k)).length := by
    have := (inj _ (hnd (fun k => !decide (k < gn a k))) (fun k hk => ((mem _ k).1 hk).1)).length_le_of_subset (l₂ := (List.range' 0 a.length).filter fun k => decide (k < gn a k)) (by
      intro x hx
      obtain ⟨k, hk, rfl⟩ := List.mem_map.1 hx
      obtain ⟨h2, h3⟩ := (mem (fun k => !decide (k < gn a k)) k).1 hk
      have h3 : ¬ k < gn a k := by simpa using h3
      obtain ⟨g1, g2, g3, -⟩ := isM_gn ha h2
      exact (mem _ _).2 ⟨g1, by rw [g3]; simp; omega⟩)
    rwa [List.length_map] at this
  rw [List.length_range'] at h1
  unfold lefts
  omega

theorem rep_left {a b : List Int} (ha : IsM a) {k : Nat} (hk : k < a.length) (h : ∀ k', k' < k → ¬ Con a b k' k) : k < gn a k := by
  obtain ⟨g1, g2, g3, -⟩ := isM_gn ha hk
  rcases Nat.lt_or_ge k (gn a k) with h1 | h1
  · exact h1
  · exfalso
    have : Con a b (gn a k) k := by
      have := (Con.refl (a := a) (b := b) (i := gn a k)).stepA
      rwa [g3] at this
    exact h (gn a k) (by omega) this

theorem con_self {a : List Int} (ha : IsM a) {i j : Nat} (hi : i < a.length) (h : Con a a i j) : j = i ∨ j = gn a i := by
  induction h with
  | refl => exact .inl rfl
  | stepA _ ih =>
    rcases ih with rfl | rfl
    · exact .inr rfl
    · exact .inl (isM_gn ha hi).2.2.1
  | stepB _ ih =>
    rcases ih with rfl | rfl
    · exact .inr rfl
    · exact .inl (isM_gn ha hi).2.2.1

open Classical in
theorem pairN_self {a : List Int} (ha : IsM a) : 2 * pairN a a = a.length := by
  rw [pairN_reps ha ha rfl, ← lefts_half ha]
  congr 2
  unfold reps lefts
  apply List.filter_congr
  intro k hk
  have hk : k < a.length := by have := (List.mem_range'_1.1 hk).2; omega
  congr 1
  apply propext
  constructor
  · intro h; exact rep_left ha hk h
  · intro h k' h1 h2
    rcases con_self ha (by omega) h2 with e | e
    · omega
    · rw [e, (isM_gn ha (by omega)).2.2.1] at h
      omega

open Classical in
theorem pairN_other {a b : List Int} (ha : IsM a) (hb : IsM b) (hl : a.length = b.length) (hne : a ≠ b) : pairN a b < pairN a a := by
  have h2 := pairN_self ha
  have h3 := lefts_half ha
  have e : pairN a a = (lefts a).length := by omega
  rw [e, pairN_reps ha hb hl]
  obtain ⟨i, hi, hd⟩ : ∃ i, i < a.length ∧ gn a i ≠ gn b i := by
    apply Classical.byContradiction
    intro hn
    apply hne
    apply ext_gi hl
    intro k hk
    have : gn a k = gn b k := Classical.byContradiction fun h => hn ⟨k, hk, h⟩
    rw [(isM_gn ha hk).2.2.2, (isM_gn hb (by omega)).2.2.2, this]
  obtain ⟨a1, a2, a3, -⟩ := isM_gn ha hi
  obtain ⟨b1, b2, b3, -⟩ := isM_gn hb (show i < b.length by omega)
  obtain ⟨c1, c2, c3, -⟩ := isM_gn ha (show gn b i < a.length by omega)
  unfold reps lefts
  refine filter_len_lt (fun k hk h => ?_) ?_
  · have hk : k < a.length := by have := (List.mem_range'_1.1 hk).2; omega
    have h := of_decide_eq_true h
    exact decide_eq_true (rep_left ha hk h)
  · -- the left ends of two arcs of a in one class
    have hleft : ∀ j, j < a.length → ∃ p, p < a.length ∧ p < gn a p ∧ (p = j ∨ p = gn a j) := by
      intro j hj
      obtain ⟨d1, d2, d3, -⟩ := isM_gn ha hj
      rcases Nat.lt_or_ge j (gn a j) with h | h
      · exact ⟨j, hj, h, .inl rfl⟩
      · exact ⟨gn a j, d1, by rw [d3]; omega, .inr rfl⟩
    obtain ⟨p, p1, p2, p3⟩ := hleft i hi
    obtain ⟨q, q1, q2, q3⟩ := hleft (gn b i) (by omega)
    have cp : Con a b i p := by rcases p3 with rfl | rfl <;> first | exact .refl | exact Con.refl.stepA
    have cq : Con a b i q := by rcases q3 with rfl | rfl <;> first | exact Con.refl.stepB | exact Con.refl.stepB.stepA
    have hpq : p ≠ q := by
      rintro rfl
      rcases p3 with e1 | e1 <;> rcases q3 with e2 | e2
      · omega
      · have : gn a p = gn b i := by rw [e2, c3]
        rw [e1] at this
        exact hd this
      · rw [← e1] at hd; exact hd e2
      · have : gn a (gn a i) = gn a (gn a (gn b i)) := by rw [← e1, ← e2]
        rw [a3, c3] at this
        exact b2 this.symm
    have mem : ∀ k, k < a.length → k ∈ List.range' 0 a.length := fun k hk => List.mem_range'_1.2 ⟨Nat.zero_le _, by omega⟩
    rcases Nat.lt_or_ge p q with h | h
    · exact ⟨q, mem q q1, decide_eq_true q2, decide_eq_false fun hall => hall p h ((Con.symm ha hb hl hi cp).trans cq)⟩
    · exact ⟨p, mem p p1, decide_eq_true p2, decide_eq_false fun hall => hall q (by omega) ((Con.symm ha hb hl hi cq).trans cp)⟩
end Go.Proofs.Ytmmcpahaekpknaa
