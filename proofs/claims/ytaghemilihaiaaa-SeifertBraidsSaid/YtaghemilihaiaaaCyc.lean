/-
  Cycles of a permutation of the numbers below N, and their least elements: plain lists, no program here.
-/
import Derived.Test.YtaghemilihaiaaaBase
namespace Go.Proofs.Ytaghemilihaiaaa

/-- f permutes the numbers below N -/
structure PermB (f : Nat → Nat) (N : Nat) : Prop where
  lt : ∀ h, h < N → f h < N
  inj : ∀ a b, a < N → b < N → f a = f b → a = b

def it (f : Nat → Nat) : Nat → Nat → Nat
  | 0, h => h
  | k + 1, h => f (it f k h)

theorem it_succ' (f : Nat → Nat) (k h : Nat) : it f (k + 1) h = it f k (f h) := by
  induction k with
  | zero => rfl
  | succ k ih => show f (it f (k + 1) h) = _; rw [ih]; rfl
theorem it_add (f : Nat → Nat) (a b h : Nat) : it f (a + b) h = it f a (it f b h) := by
  induction a with
  | zero => rw [Nat.zero_add]; rfl
  | succ a ih => rw [Nat.add_right_comm]; show f (it f (a + b) h) = f _; rw [ih]

section
variable {f : Nat → Nat} {N : Nat}
theorem PermB.it_lt (hP : PermB f N) (k : Nat) {h : Nat} (hh : h < N) : it f k h < N := by
  induction k with
  | zero => exact hh
  | succ k ih => exact hP.lt _ ih
theorem PermB.it_inj (hP : PermB f N) (k : Nat) {a b : Nat} (ha : a < N) (hb : b < N) (h : it f k a = it f k b) : a = b := by
  induction k with
  | zero => exact h
  | succ k ih => exact ih (hP.inj _ _ (hP.it_lt k ha) (hP.it_lt k hb) h)

theorem PermB.returns (hP : PermB f N) {h : Nat} (hh : h < N) : ∃ p, 0 < p ∧ p ≤ N ∧ it f p h = h := by
  apply Classical.byContradiction
  intro hno
  have hnd : ((List.range (N + 1)).map (fun k => it f k h)).Nodup := by
    rw [List.Nodup, List.pairwise_map]
    refine (List.pairwise_lt_range (n := N + 1)).imp_of_mem ?_
    intro a b ha hb hab e
    rw [List.mem_range] at ha hb
    have e2 : it f b h = it f a (it f (b - a) h) := by rw [← it_add]; congr 1; omega
    rw [e2] at e
    have := hP.it_inj a hh (hP.it_lt _ hh) e
    exact hno ⟨b - a, by omega, by omega, this.symm⟩
  have hsub : (List.range (N + 1)).map (fun k => it f k h) ⊆ List.range N := by
    intro x hx
    rw [List.mem_map] at hx
    obtain ⟨k, _, rfl⟩ := hx
    exact List.mem_range.2 (hP.it_lt k hh)
  have := hnd.length_le_of_subset hsub
  simp at this
  omega
end

/-- the first return, at most 'fuel' steps behind k -/
def perF (f : Nat → Nat) (h : Nat) : Nat → Nat → Nat
  | 0, k => k
  | u + 1, k => if it f k h = h then k else perF f h u (k + 1)
def per (f : Nat → Nat) (N h : Nat) : Nat := perF f h N 1
def cyc (f : Nat → Nat) (N h : Nat) : List Nat := (List.range (per f N h)).map fun k => it f k h

theorem perF_spec {f : Nat → Nat} {h p : Nat} (hp : it f p h = h) : ∀ (u k : Nat), (∀ j, 0 < j → j < k → it f j h ≠ h) → 0 < k → k ≤ p → p - k < u →
    k ≤ perF f h u k ∧ perF f h u k ≤ p ∧ it f (perF f h u k) h = h ∧ ∀ j, 0 < j → j < perF f h u k → it f j h ≠ h := by
  intro u
  induction u with
  | zero => intro k _ _ _ h; omega
  | succ u ih =>
    intro k hk h0 hkp hu
    rw [perF]
    by_cases e : it f k h = h
    · rw [if_pos e]
      exact ⟨Nat.le_refl _, hkp, e, hk⟩
    · rw [if_neg e]
      have hne : k ≠ p := by rintro rfl; exact e hp
      have := ih (k + 1) (fun j h1 h2 => by
        rcases Nat.lt_or_eq_of_le (Nat.le_of_lt_succ h2) with h3 | rfl
        · exact hk j h1 h3
        · exact e) (by omega) (by omega) (by omega)
      exact ⟨by omega, this.2⟩

section
variable {f : Nat → Nat} {N : Nat} (hP : PermB f N) {h g : Nat} (hh : h < N)
include hP hh
theorem per_spec : 0 < per f N h ∧ per f N h ≤ N ∧ it f (per f N h) h = h ∧ ∀ j, 0 < j → j < per f N h → it f j h ≠ h := by
  obtain ⟨p, h0, h1, h2⟩ := hP.returns hh
  have := perF_spec h2 N 1 (by intro j a b; omega) (by omega) h0 (by omega)
  exact ⟨this.1, by have := this.2.1; unfold per; omega, this.2.2⟩
theorem it_mod (k : Nat) : it f k h = it f (k % per f N h) h := by
  obtain ⟨h0, _, h1, _⟩ := per_spec hP hh
  have hm : ∀ q, it f (per f N h * q) h = h := by
    intro q
    induction q with
    | zero => rfl
    | succ q ih => rw [Nat.mul_succ, it_add, h1, ih]
  have hk := Nat.mod_add_div k (per f N h)
  conv => lhs; rw [← hk]
  rw [it_add, hm]
theorem mem_cyc : g ∈ cyc f N h ↔ ∃ k, it f k h = g := by
  obtain ⟨h0, _, _, _⟩ := per_spec hP hh
  unfold cyc
  rw [List.mem_map]
  constructor
  · rintro ⟨k, _, e⟩; exact ⟨k, e⟩
  · rintro ⟨k, e⟩
    exact ⟨k % per f N h, List.mem_range.2 (Nat.mod_lt _ h0), by rw [← it_mod hP hh]; exact e⟩
theorem self_mem : h ∈ cyc f N h := (mem_cyc hP hh).2 ⟨0, rfl⟩
theorem cyc_lt (hg : g ∈ cyc f N h) : g < N := by
  obtain ⟨k, rfl⟩ := (mem_cyc hP hh).1 hg
  exact hP.it_lt k hh
theorem next_mem (hg : g ∈ cyc f N h) : f g ∈ cyc f N h := by
  obtain ⟨k, rfl⟩ := (mem_cyc hP hh).1 hg
  exact (mem_cyc hP hh).2 ⟨k + 1, rfl⟩
theorem mem_symm (hg : g ∈ cyc f N h) : h ∈ cyc f N g := by
  have hgN := cyc_lt hP hh hg
  obtain ⟨k, rfl⟩ := (mem_cyc hP hh).1 hg
  obtain ⟨h0, _, _, _⟩ := per_spec hP hh
  rw [mem_cyc hP hgN]
  have hlt := Nat.mod_lt k h0
  refine ⟨per f N h - k % per f N h, ?_⟩
  rw [it_mod hP hh k, ← it_add, Nat.sub_add_cancel (by omega)]
  exact (per_spec hP hh).2.2.1
theorem mem_trans {x : Nat} (hg : g ∈ cyc f N h) (hx : x ∈ cyc f N g) : x ∈ cyc f N h := by
  have hgN := cyc_lt hP hh hg
  obtain ⟨j, rfl⟩ := (mem_cyc hP hgN).1 hx
  obtain ⟨k, rfl⟩ := (mem_cyc hP hh).1 hg
  exact (mem_cyc hP hh).2 ⟨j + k, by rw [it_add]⟩
theorem cyc_nodup : (cyc f N h).Nodup := by
  obtain ⟨h0, _, _, hmin⟩ := per_spec hP hh
  unfold cyc
  rw [List.Nodup, List.pairwise_map]
  refine (List.pairwise_lt_range (n := per f N h)).imp_of_mem ?_
  intro a b ha hb hab e
  rw [List.mem_range] at ha hb
  have e2 : it f b h = it f a (it f (b - a) h) := by rw [← it_add]; congr 1; omega
  rw [e2] at e
  have := hP.it_inj a hh (hP.it_lt _ hh) e
  exact hmin (b - a) (by omega) (by omega) this.symm
theorem cyc_length_le : (cyc f N h).length ≤ N := by
  obtain ⟨_, h1, _, _⟩ := per_spec hP hh
  unfold cyc
  simpa using h1
end

theorem cyc_length (f : Nat → Nat) (N h : Nat) : (cyc f N h).length = per f N h := by simp [cyc]
theorem cyc_take_succ {f : Nat → Nat} {N h k : Nat} (hk : k < per f N h) : (cyc f N h).take k ++ [it f k h] = (cyc f N h).take (k + 1) := by
  rw [List.take_succ_eq_append_getElem (by rw [cyc_length]; exact hk)]
  congr 1
  simp [cyc]

/-- h is the least of its cycle -/
def lstB (f : Nat → Nat) (N h : Nat) : Bool := (cyc f N h).all fun g => decide (h ≤ g)
theorem lstB_iff {f : Nat → Nat} {N h : Nat} : lstB f N h = true ↔ ∀ g, g ∈ cyc f N h → h ≤ g := by
  unfold lstB
  rw [List.all_eq_true]
  simp

/-- each list has a least element -/
theorem least_of {P : Nat → Prop} {n : Nat} (h : P n) : ∃ m, P m ∧ ∀ k, P k → m ≤ k := by
  induction n using Nat.strongRecOn with
  | _ n ih =>
    by_cases hex : ∃ k, k < n ∧ P k
    · obtain ⟨k, hk, hp⟩ := hex
      exact ih k hk hp
    · refine ⟨n, h, fun k hk => ?_⟩
      rcases Nat.lt_or_ge k n with hlt | hge
      · exact absurd ⟨k, hlt, hk⟩ hex
      · exact hge

theorem least_mem {f : Nat → Nat} {N : Nat} (hP : PermB f N) {h : Nat} (hh : h < N) : ∃ m, m ∈ cyc f N h ∧ m < N ∧ h ∈ cyc f N m ∧ lstB f N m = true ∧ m ≤ h := by
  obtain ⟨m, hm, hl⟩ := least_of (P := fun x => x ∈ cyc f N h) (self_mem hP hh)
  have hmN := cyc_lt hP hh hm
  exact ⟨m, hm, hmN, mem_symm hP hh hm, lstB_iff.2 fun g hg => hl g (mem_trans hP hh hm hg), hl h (self_mem hP hh)⟩

/-- the cycles of the wanted numbers below n, each from its least element -/
def cycsL (f : Nat → Nat) (N : Nat) (wt : Nat → Bool) (n : Nat) : List (List Nat) := ((List.range n).filter fun h => wt h && lstB f N h).map (cyc f N)

theorem cycsL_succ (f : Nat → Nat) (N : Nat) (wt : Nat → Bool) (n : Nat) : cycsL f N wt (n + 1) = cycsL f N wt n ++ (if (wt n && lstB f N n) = true then [cyc f N n] else []) := by
  unfold cycsL
  rw [List.range_succ, List.filter_append, List.map_append]
  congr 1
  by_cases h : (wt n && lstB f N n) = true
  · rw [if_pos h]; simp [h]
  · rw [if_neg h]; simp [h]

/-- what the search has marked when it comes to n -/
def Seen (f : Nat → Nat) (N : Nat) (wt : Nat → Bool) (n g : Nat) : Prop := ∃ h, h < n ∧ wt h = true ∧ lstB f N h = true ∧ g ∈ cyc f N h

section
variable {f : Nat → Nat} {N : Nat} (hP : PermB f N) {wt : Nat → Bool} (hw : ∀ h, h < N → wt (f h) = wt h)
include hP hw
theorem wt_cyc {h g : Nat} (hh : h < N) (hg : g ∈ cyc f N h) : wt g = wt h := by
  obtain ⟨k, rfl⟩ := (mem_cyc hP hh).1 hg
  clear hg
  induction k with
  | zero => rfl
  | succ k ih => show wt (f _) = _; rw [hw _ (hP.it_lt k hh), ih]
/-- a wanted number is not seen exactly if it is the least of its cycle -/
theorem seen_iff {n : Nat} (hn : n < N) (hwn : wt n = true) : Seen f N wt n n ↔ lstB f N n = false := by
  constructor
  · rintro ⟨h, hlt, _, _, hm⟩
    rw [Bool.eq_false_iff]
    intro hl
    have := lstB_iff.1 hl h (mem_symm hP (by omega) hm)
    omega
  · intro hl
    obtain ⟨m, h1, h2, h3, h4, h5⟩ := least_mem hP hn
    refine ⟨m, ?_, by rw [wt_cyc hP hw hn h1]; exact hwn, h4, h3⟩
    rcases Nat.lt_or_eq_of_le h5 with h6 | rfl
    · exact h6
    · rw [h4] at hl; cases hl
end

theorem seen_succ {f : Nat → Nat} {N : Nat} {wt : Nat → Bool} {n g : Nat} : Seen f N wt (n + 1) g ↔ Seen f N wt n g ∨ (wt n = true ∧ lstB f N n = true ∧ g ∈ cyc f N n) := by
  constructor
  · rintro ⟨h, hlt, h1⟩
    rcases Nat.lt_or_eq_of_le (Nat.le_of_lt_succ hlt) with h2 | rfl
    · exact .inl ⟨h, h2, h1⟩
    · exact .inr h1
  · rintro (⟨h, hlt, h1⟩ | h1)
    · exact ⟨h, by omega, h1⟩
    · exact ⟨n, by omega, h1⟩
theorem seen_zero {f : Nat → Nat} {N : Nat} {wt : Nat → Bool} {g : Nat} : ¬ Seen f N wt 0 g := by
  rintro ⟨h, hlt, _⟩; omega

end Go.Proofs.Ytaghemilihaiaaa

