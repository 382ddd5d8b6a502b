/-
  Faces counted by graph component, and the marks of the searches along cycles. No program here.
-/
import Derived.Test.YtaghemilihaiaaaLabelM
import Derived.Test.YtaghemilihaiaaaOut
namespace Go.Proofs.Ytaghemilihaiaaa

/-- how many numbers below m are of the kind P -/
def cnt (P : Nat → Bool) (m : Nat) : Nat := ((List.range m).filter P).length
theorem cnt_zero (P : Nat → Bool) : cnt P 0 = 0 := rfl
theorem cnt_succ (P : Nat → Bool) (m : Nat) : cnt P (m + 1) = cnt P m + if P m = true then 1 else 0 := by
  unfold cnt
  rw [List.range_succ, List.filter_append, List.length_append]
  congr 1
  by_cases h : P m = true <;> simp [h]
theorem cnt_le (P : Nat → Bool) (m : Nat) : cnt P m ≤ m := by
  unfold cnt
  have := List.length_filter_le P (List.range m)
  simpa using this
theorem cnt_congr {P Q : Nat → Bool} {m : Nat} (h : ∀ x, x < m → P x = Q x) : cnt P m = cnt Q m := by
  unfold cnt
  congr 1
  apply List.filter_congr
  intro x hx
  exact h x (List.mem_range.1 hx)

/-! ### marks along cycles -/
section
variable {f : Nat → Nat} {N : Nat} {wt : Nat → Bool}
/-- the marks when the search comes to n -/
def SeenL (f : Nat → Nat) (N : Nat) (wt : Nat → Bool) (n : Nat) (bs : List Bool) : Prop := bs.length = N ∧ ∀ x, x < N → (gb bs x = true ↔ Seen f N wt n x)
/-- the marks when j elements of the cycle of h are marked too -/
def SeenJ (f : Nat → Nat) (N : Nat) (wt : Nat → Bool) (h j : Nat) (bs : List Bool) : Prop := bs.length = N ∧ ∀ x, x < N → (gb bs x = true ↔ Seen f N wt h x ∨ ∃ i, i < j ∧ it f i h = x)

theorem seenL_zero (f : Nat → Nat) (N : Nat) (wt : Nat → Bool) : SeenL f N wt 0 (List.replicate N false) :=
  ⟨by simp, fun x hx => by simp [gb, hx, seen_zero]⟩
theorem seenJ_zero {h : Nat} {bs : List Bool} (hs : SeenL f N wt h bs) : SeenJ f N wt h 0 bs :=
  ⟨hs.1, fun x hx => by rw [hs.2 x hx]; exact ⟨.inl, fun h => h.elim id fun ⟨i, hi, _⟩ => absurd hi (Nat.not_lt_zero i)⟩⟩
theorem seenJ_step {h j : Nat} {bs : List Bool} (hP : PermB f N) (hh : h < N) (hs : SeenJ f N wt h j bs) : SeenJ f N wt h (j + 1) (bs.set (it f j h) true) := by
  refine ⟨by rw [List.length_set]; exact hs.1, fun x hx => ?_⟩
  rw [gb_set (by rw [hs.1]; exact hP.it_lt j hh)]
  by_cases e : x = it f j h
  · subst e
    rw [if_pos rfl]
    exact ⟨fun _ => .inr ⟨j, by omega, rfl⟩, fun _ => rfl⟩
  · rw [if_neg e, hs.2 x hx]
    constructor
    · rintro (h1 | ⟨i, h1, h2⟩)
      · exact .inl h1
      · exact .inr ⟨i, by omega, h2⟩
    · rintro (h1 | ⟨i, h1, h2⟩)
      · exact .inl h1
      · refine .inr ⟨i, ?_, h2⟩
        have : i ≠ j := by rintro rfl; exact e h2.symm
        omega
variable (hP : PermB f N) (hw : ∀ h, h < N → wt (f h) = wt h)
include hP hw
omit hw in
theorem seen_closed {n g x : Nat} (hg : g < N) (hx : x ∈ cyc f N g) (hn : n ≤ N) (hs : Seen f N wt n x) : Seen f N wt n g := by
  obtain ⟨h, h1, h2, h3, h4⟩ := hs
  exact ⟨h, h1, h2, h3, mem_trans hP (by omega) h4 (mem_symm hP hg hx)⟩
/-- not marked: the next element of the cycle -/
theorem seenJ_open {h j : Nat} {bs : List Bool} (hh : h < N) (hwt : wt h = true) (hl : lstB f N h = true) (hs : SeenJ f N wt h j bs) (hj : j < per f N h) : gb bs (it f j h) = false := by
  rw [Bool.eq_false_iff]
  intro hb
  rcases (hs.2 _ (hP.it_lt j hh)).1 hb with h1 | ⟨i, h1, h2⟩
  · have := seen_closed hP hh ((mem_cyc hP hh).2 ⟨j, rfl⟩) (Nat.le_of_lt hh) h1
    rw [seen_iff hP hw hh hwt, hl] at this
    cases this
  · have e2 : it f j h = it f i (it f (j - i) h) := by rw [← it_add]; congr 1; omega
    rw [e2] at h2
    have := hP.it_inj i hh (hP.it_lt _ hh) h2
    exact (per_spec hP hh).2.2.2 (j - i) (by omega) (by omega) this.symm
omit hw in
theorem seenJ_shut {h j : Nat} {bs : List Bool} (hh : h < N) (hs : SeenJ f N wt h j bs) (hj : j = per f N h) : gb bs (it f j h) = true := by
  subst hj
  obtain ⟨h0, _, h1, _⟩ := per_spec hP hh
  rw [hs.2 _ (hP.it_lt _ hh)]
  exact .inr ⟨0, h0, h1.symm⟩
omit hw in
theorem seenJ_end {h j : Nat} {bs : List Bool} (hh : h < N) (hwt : wt h = true) (hl : lstB f N h = true) (hs : SeenJ f N wt h j bs) (hj : j = per f N h) : SeenL f N wt (h + 1) bs := by
  subst hj
  refine ⟨hs.1, fun x hx => ?_⟩
  rw [hs.2 x hx, seen_succ]
  constructor
  · rintro (h1 | ⟨i, h1, h2⟩)
    · exact .inl h1
    · exact .inr ⟨hwt, hl, (mem_cyc hP hh).2 ⟨i, h2⟩⟩
  · rintro (h1 | ⟨_, _, h2⟩)
    · exact .inl h1
    · obtain ⟨i, hi⟩ := (mem_cyc hP hh).1 h2
      exact .inr ⟨i % per f N h, Nat.mod_lt _ (per_spec hP hh).1, by rw [← it_mod hP hh]; exact hi⟩
theorem seenL_least {h : Nat} {bs : List Bool} (hh : h < N) (hwt : wt h = true) (hs : SeenL f N wt h bs) : gb bs h = !lstB f N h := by
  have h1 := hs.2 h hh
  rw [seen_iff hP hw hh hwt] at h1
  cases hb : gb bs h <;> cases hl : lstB f N h <;> simp_all
omit hP hw in
theorem seenL_skip {h : Nat} {bs : List Bool} (hs : SeenL f N wt h bs) (hno : ¬ (wt h = true ∧ lstB f N h = true)) : SeenL f N wt (h + 1) bs := by
  refine ⟨hs.1, fun x hx => ?_⟩
  rw [hs.2 x hx, seen_succ]
  constructor
  · exact .inl
  · rintro (h1 | ⟨h1, h2, _⟩)
    · exact h1
    · exact absurd ⟨h1, h2⟩ hno
end

/-! ### the two successors of a half-edge -/
/-- the next half-edge of the face to the left -/
def nxF (mt : List Int) (g : Nat) : Nat := turnN (gn mt g) 3
/-- the next half-edge of the strand -/
def nxS (mt : List Int) (g : Nat) : Nat := turnN (gn mt g) 2

theorem gn_inj {mt : List Int} (hI : InvM mt) {a b : Nat} (ha : a < mt.length) (hb : b < mt.length) (h : gn mt a = gn mt b) : a = b := by
  have h1 := (hI.gn ha).2.2.2
  have h2 := (hI.gn hb).2.2.2
  rw [← h1, h, h2]
theorem nxF_perm {mt : List Int} (hI : InvM mt) {n : Nat} (hn : mt.length = 4 * n) : PermB (nxF mt) mt.length :=
  ⟨fun h hh => by rw [hn]; exact turnN_lt (by have := (hI.gn hh).2.1; omega), fun a b ha hb e => gn_inj hI ha hb (turnN_inj e)⟩
theorem nxS_perm {mt : List Int} (hI : InvM mt) {n : Nat} (hn : mt.length = 4 * n) : PermB (nxS mt) mt.length :=
  ⟨fun h hh => by rw [hn]; exact turnN_lt (by have := (hI.gn hh).2.1; omega), fun a b ha hb e => gn_inj hI ha hb (turnN_inj e)⟩

/-! ### faces and crossings by component -/
def facesOf (mt : List Int) (n p m : Nat) : Nat := cnt (fun h => lstB (nxF mt) mt.length h && decide (idxAt mt n (labAt mt n (h / 4)) = p)) m
def crossOf (mt : List Int) (n p m : Nat) : Nat := cnt (fun c => decide (idxAt mt n (labAt mt n c) = p)) m
/-- Euler's formula holds for each component -/
def Sph (mt : List Int) (n : Nat) : Prop := ∀ p, p < idxAt mt n n → facesOf mt n p mt.length = crossOf mt n p n + 2
instance (mt : List Int) (n : Nat) : Decidable (Sph mt n) := by unfold Sph; infer_instance

def OutM (sg mt : List Int) : Prop := ∀ h, h < mt.length → outB sg h ≠ outB sg (gn mt h)
def SgM (sg : List Int) : Prop := ∀ c, c < sg.length → gi sg c = 1 ∨ gi sg c = -1
/-- a valid diagram -/
def IsD (sg mt : List Int) (L : Int) : Prop := sg.length ≤ 64 ∧ mt.length = 4 * sg.length ∧ 0 ≤ L ∧ L ≤ 64 ∧ SgM sg ∧ InvM mt ∧ OutM sg mt ∧ Sph mt sg.length
instance (mt : List Int) : Decidable (InvM mt) := by unfold InvM; infer_instance
instance (sg mt : List Int) : Decidable (OutM sg mt) := by unfold OutM; infer_instance
instance (sg : List Int) : Decidable (SgM sg) := by unfold SgM; infer_instance
instance (sg mt : List Int) (L : Int) : Decidable (IsD sg mt L) := by unfold IsD; infer_instance

/-- the numbers of the reference: the components by their least crossings -/
theorem sph_iff {mt : List Int} (hI : InvM mt) {n : Nat} (hn : mt.length = 4 * n) :
    Sph mt n ↔ ∀ r, r < n → labAt mt n r = r → cnt (fun h => lstB (nxF mt) mt.length h && decide (labAt mt n (h / 4) = r)) mt.length = cnt (fun c => decide (labAt mt n c = r)) n + 2 := by
  have key : ∀ r, r < n → labAt mt n r = r → facesOf mt n (idxAt mt n r) mt.length = cnt (fun h => lstB (nxF mt) mt.length h && decide (labAt mt n (h / 4) = r)) mt.length ∧
      crossOf mt n (idxAt mt n r) n = cnt (fun c => decide (labAt mt n c = r)) n := by
    intro r hr hl
    have e : ∀ c, c < n → decide (idxAt mt n (labAt mt n c) = idxAt mt n r) = decide (labAt mt n c = r) := by
      intro c hc
      rw [Bool.eq_iff_iff, decide_eq_true_eq, decide_eq_true_eq]
      exact ⟨fun h => idxN_inj _ (lab_lab hI hn hc) hl h, fun h => by rw [h]⟩
    exact ⟨cnt_congr fun h hh => by rw [e (h / 4) (by omega)], cnt_congr fun c hc => e c hc⟩
  constructor
  · intro h r hr hl
    obtain ⟨k1, k2⟩ := key r hr hl
    rw [← k1, ← k2]
    exact h _ (idxN_lt _ hr hl)
  · intro h p hp
    obtain ⟨r, hr, hl, rfl⟩ := idxN_surj _ hp
    obtain ⟨k1, k2⟩ := key r hr hl
    have := h r hr hl
    rw [← k1, ← k2] at this
    exact this
theorem cnt_inj {A B : Nat → Bool} {N M : Nat} (g : Nat → Nat) (hg : ∀ x, x < N → A x = true → g x < M ∧ B (g x) = true) (hi : ∀ x y, x < N → y < N → A x = true → A y = true → g x = g y → x = y) : cnt A N ≤ cnt B M := by
  have hnd : (((List.range N).filter A).map g).Nodup := by
    rw [List.Nodup, List.pairwise_map]
    refine ((List.pairwise_lt_range (n := N)).filter A).imp_of_mem ?_
    intro a b ha hb hab e
    rw [List.mem_filter, List.mem_range] at ha hb
    have := hi a b ha.1 hb.1 ha.2 hb.2 e
    omega
  have hsub : ((List.range N).filter A).map g ⊆ (List.range M).filter B := by
    intro x hx
    rw [List.mem_map] at hx
    obtain ⟨a, ha, rfl⟩ := hx
    rw [List.mem_filter, List.mem_range] at ha
    rw [List.mem_filter, List.mem_range]
    exact hg a ha.1 ha.2
  have := hnd.length_le_of_subset hsub
  rw [List.length_map] at this
  exact this
end Go.Proofs.Ytaghemilihaiaaa

