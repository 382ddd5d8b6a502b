/-
  The numbers of the cycles, as a search lays them along the cycles. No program here.
-/
import Derived.Test.YtaghemilihaiaaaSeifM
namespace Go.Proofs.Ytaghemilihaiaaa

/-- how many wanted cycles begin below k -/
def ixB (f : Nat → Nat) (N : Nat) (wt : Nat → Bool) (k : Nat) : Nat := cnt (fun x => wt x && lstB f N x) k
theorem cycsL_ix (f : Nat → Nat) (N : Nat) (wt : Nat → Bool) (k : Nat) : (cycsL f N wt k).length = ixB f N wt k := by
  unfold cycsL ixB cnt
  rw [List.length_map]
/-- the least element of the cycle -/
def lstN (f : Nat → Nat) (N h : Nat) : Nat := (cyc f N h).foldl min h
theorem foldl_min_le : ∀ (l : List Nat) (a : Nat), l.foldl min a ≤ a ∧ (∀ x, x ∈ l → l.foldl min a ≤ x) ∧ (l.foldl min a = a ∨ l.foldl min a ∈ l)
  | [], a => ⟨Nat.le_refl _, fun x hx => by simp at hx, .inl rfl⟩
  | y :: l, a => by
    obtain ⟨h1, h2, h3⟩ := foldl_min_le l (min a y)
    simp only [List.foldl_cons]
    refine ⟨by omega, fun x hx => ?_, ?_⟩
    · rcases List.mem_cons.1 hx with rfl | hx
      · omega
      · exact h2 x hx
    · rcases h3 with h3 | h3
      · rcases Nat.le_total a y with h | h
        · exact .inl (by rw [h3]; omega)
        · exact .inr (by rw [h3, show min a y = y by omega]; exact List.mem_cons_self ..)
      · exact .inr (List.mem_cons_of_mem _ h3)
section
variable {f : Nat → Nat} {N : Nat} (hP : PermB f N)
include hP
theorem lstN_spec {h : Nat} (hh : h < N) : lstN f N h ∈ cyc f N h ∧ ∀ g, g ∈ cyc f N h → lstN f N h ≤ g := by
  obtain ⟨-, h2, h3⟩ := foldl_min_le (cyc f N h) h
  refine ⟨?_, h2⟩
  unfold lstN
  rcases h3 with h3 | h3
  · rw [h3]; exact self_mem hP hh
  · exact h3
theorem lstN_same {h g : Nat} (hh : h < N) (hg : g ∈ cyc f N h) : lstN f N g = lstN f N h := by
  have hgN := cyc_lt hP hh hg
  obtain ⟨a1, a2⟩ := lstN_spec hP hh
  obtain ⟨b1, b2⟩ := lstN_spec hP hgN
  have c1 := a2 _ (mem_trans hP hh hg b1)
  have c2 := b2 _ (mem_trans hP hgN (mem_symm hP hh hg) a1)
  omega
theorem lstN_least {h : Nat} (hh : h < N) (hl : lstB f N h = true) : lstN f N h = h := by
  obtain ⟨a1, a2⟩ := lstN_spec hP hh
  have := lstB_iff.1 hl _ a1
  have := a2 _ (self_mem hP hh)
  omega
theorem lstN_lstB {h : Nat} (hh : h < N) : lstB f N (lstN f N h) = true := by
  obtain ⟨a1, a2⟩ := lstN_spec hP hh
  exact lstB_iff.2 fun g hg => a2 _ (mem_trans hP hh a1 hg)
end
/-- the number of the cycle of h -/
def numN (f : Nat → Nat) (N : Nat) (wt : Nat → Bool) (h : Nat) : Nat := ixB f N wt (lstN f N h)
def numI (f : Nat → Nat) (N : Nat) (wt : Nat → Bool) (h : Nat) : Int := if wt h = true then (numN f N wt h : Int) else -1

/-- the row of the numbers when the search comes to k; and when j elements of its cycle are laid too -/
def NumL (f : Nat → Nat) (N : Nat) (wt : Nat → Bool) (k : Nat) (p : List Int) : Prop := p.length = N ∧ ∀ x, x < N → (Seen f N wt k x → gi p x = (numN f N wt x : Int)) ∧ (¬ Seen f N wt k x → gi p x = -1)
def NumJ (f : Nat → Nat) (N : Nat) (wt : Nat → Bool) (k j : Nat) (p : List Int) : Prop := p.length = N ∧ ∀ x, x < N → ((Seen f N wt k x ∨ ∃ i, i < j ∧ it f i k = x) → gi p x = (numN f N wt x : Int)) ∧ (¬ (Seen f N wt k x ∨ ∃ i, i < j ∧ it f i k = x) → gi p x = -1)
section
variable {f : Nat → Nat} {N : Nat} {wt : Nat → Bool}
theorem numL_zero {p : List Int} (hl : p.length = N) (h : ∀ x, x < N → gi p x = -1) : NumL f N wt 0 p := ⟨hl, fun x hx => ⟨fun hs => absurd hs seen_zero, fun _ => h x hx⟩⟩
theorem numJ_zero {k : Nat} {p : List Int} (h : NumL f N wt k p) : NumJ f N wt k 0 p :=
  ⟨h.1, fun x hx => ⟨fun hs => (h.2 x hx).1 (hs.elim id fun ⟨i, hi, _⟩ => absurd hi (Nat.not_lt_zero i)), fun hs => (h.2 x hx).2 fun h' => hs (.inl h')⟩⟩
theorem numJ_step {k j : Nat} {p : List Int} (hP : PermB f N) (hk : k < N) (hl : lstB f N k = true) (h : NumJ f N wt k j p) : NumJ f N wt k (j + 1) (p.set (it f j k) (ixB f N wt k : Int)) := by
  refine ⟨by rw [List.length_set]; exact h.1, fun x hx => ?_⟩
  rw [gi_set (by rw [h.1]; exact hP.it_lt j hk)]
  by_cases e : x = it f j k
  · rw [if_pos e]
    refine ⟨fun _ => ?_, fun hno => absurd (.inr ⟨j, by omega, e.symm⟩) hno⟩
    have hm : x ∈ cyc f N k := (mem_cyc hP hk).2 ⟨j, e.symm⟩
    unfold numN
    rw [lstN_same hP hk hm, lstN_least hP hk hl]
  · rw [if_neg e]
    have hiff : (Seen f N wt k x ∨ ∃ i, i < j + 1 ∧ it f i k = x) ↔ (Seen f N wt k x ∨ ∃ i, i < j ∧ it f i k = x) := by
      constructor
      · rintro (h1 | ⟨i, h1, h2⟩)
        · exact .inl h1
        · refine .inr ⟨i, ?_, h2⟩
          have : i ≠ j := by rintro rfl; exact e h2.symm
          omega
      · rintro (h1 | ⟨i, h1, h2⟩)
        · exact .inl h1
        · exact .inr ⟨i, by omega, h2⟩
    rw [hiff]
    exact h.2 x hx
variable (hP : PermB f N) (hw : ∀ h, h < N → wt (f h) = wt h)
include hP hw
theorem numJ_open {k j : Nat} {p : List Int} (hk : k < N) (hwt : wt k = true) (hl : lstB f N k = true) (h : NumJ f N wt k j p) (hj : j < per f N k) : gi p (it f j k) = -1 := by
  refine (h.2 _ (hP.it_lt j hk)).2 ?_
  rintro (h1 | ⟨i, h1, h2⟩)
  · have := seen_closed hP hk ((mem_cyc hP hk).2 ⟨j, rfl⟩) (Nat.le_of_lt hk) h1
    rw [seen_iff hP hw hk hwt, hl] at this
    cases this
  · have e2 : it f j k = it f i (it f (j - i) k) := by rw [← it_add]; congr 1; omega
    rw [e2] at h2
    have := hP.it_inj i hk (hP.it_lt _ hk) h2
    exact (per_spec hP hk).2.2.2 (j - i) (by omega) (by omega) this.symm
omit hw in
theorem numJ_shut {k j : Nat} {p : List Int} (hk : k < N) (h : NumJ f N wt k j p) (hj : j = per f N k) : 0 ≤ gi p (it f j k) := by
  subst hj
  obtain ⟨h0, _, h1, _⟩ := per_spec hP hk
  rw [(h.2 _ (hP.it_lt _ hk)).1 (.inr ⟨0, h0, h1.symm⟩)]
  omega
omit hw in
theorem numJ_end {k j : Nat} {p : List Int} (hk : k < N) (hwt : wt k = true) (hl : lstB f N k = true) (h : NumJ f N wt k j p) (hj : j = per f N k) : NumL f N wt (k + 1) p := by
  subst hj
  refine ⟨h.1, fun x hx => ?_⟩
  have hiff : Seen f N wt (k + 1) x ↔ (Seen f N wt k x ∨ ∃ i, i < per f N k ∧ it f i k = x) := by
    rw [seen_succ]
    constructor
    · rintro (h1 | ⟨_, _, h2⟩)
      · exact .inl h1
      · obtain ⟨i, hi⟩ := (mem_cyc hP hk).1 h2
        exact .inr ⟨i % per f N k, Nat.mod_lt _ (per_spec hP hk).1, by rw [← it_mod hP hk]; exact hi⟩
    · rintro (h1 | ⟨i, h1, h2⟩)
      · exact .inl h1
      · exact .inr ⟨hwt, hl, (mem_cyc hP hk).2 ⟨i, h2⟩⟩
  rw [hiff]
  exact h.2 x hx
omit hP hw in
theorem numL_skip {k : Nat} {p : List Int} (h : NumL f N wt k p) (hno : ¬ (wt k = true ∧ lstB f N k = true)) : NumL f N wt (k + 1) p := by
  refine ⟨h.1, fun x hx => ?_⟩
  have hiff : Seen f N wt (k + 1) x ↔ Seen f N wt k x := by
    rw [seen_succ]
    exact ⟨fun h1 => h1.elim id fun ⟨h1, h2, _⟩ => absurd ⟨h1, h2⟩ hno, .inl⟩
  rw [hiff]
  exact h.2 x hx
/-- has the wanted number k one already? exactly if it is not the least of its cycle -/
theorem numL_test {k : Nat} {p : List Int} (hk : k < N) (hwt : wt k = true) (h : NumL f N wt k p) : 0 ≤ gi p k ↔ lstB f N k = false := by
  rw [← seen_iff hP hw hk hwt]
  constructor
  · intro h0
    apply Classical.byContradiction
    intro hno
    have := (h.2 k hk).2 hno
    omega
  · intro hs
    rw [(h.2 k hk).1 hs]
    omega
theorem numL_end {p : List Int} (h : NumL f N wt N p) {x : Nat} (hx : x < N) : gi p x = numI f N wt x := by
  unfold numI
  by_cases hwt : wt x = true
  · rw [if_pos hwt]
    obtain ⟨m, m1, m2, m3, m4, -⟩ := least_mem hP hx
    exact (h.2 x hx).1 ⟨m, m2, by rw [wt_cyc hP hw hx m1]; exact hwt, m4, m3⟩
  · rw [if_neg hwt]
    refine (h.2 x hx).2 ?_
    rintro ⟨m, m1, m2, -, m3⟩
    rw [wt_cyc hP hw m1 m3] at hwt
    exact hwt m2
end
end Go.Proofs.Ytaghemilihaiaaa

