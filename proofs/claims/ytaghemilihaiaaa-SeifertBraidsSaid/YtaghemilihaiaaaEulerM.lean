/-
  What the list of the faces holds: no program here.
-/
import Derived.Test.YtaghemilihaiaaaPlane
import Derived.Test.YtaghemilihaiaaaRValid
namespace Go.Proofs.Ytaghemilihaiaaa

def fa (mt : List Int) (i : Nat) : List Nat := (facesL mt).getD i []
def repsF (mt : List Int) : List Nat := (List.range mt.length).filter fun h => allT h && lstB (nxF mt) mt.length h
theorem facesL_reps (mt : List Int) : facesL mt = (repsF mt).map (cyc (nxF mt) mt.length) := rfl
theorem fa_eq {mt : List Int} {k : Nat} (hk : k < (facesL mt).length) : fa mt k = (facesL mt)[k] := by simp [fa, hk]

section
variable {mt : List Int} (hP : PermB (nxF mt) mt.length)
include hP
theorem fa_lt {k x : Nat} (hk : k < (facesL mt).length) (h : x ∈ fa mt k) : x < mt.length := by
  obtain ⟨a, ha, e⟩ := face_at hk
  rw [fa_eq hk, e] at h
  exact cyc_lt hP ha h
theorem fa_nodup {k : Nat} (hk : k < (facesL mt).length) : (fa mt k).Nodup := by
  obtain ⟨a, ha, e⟩ := face_at hk
  rw [fa_eq hk, e]
  exact cyc_nodup hP ha
theorem fa_apart {i k x : Nat} (hik : i < k) (hk : k < (facesL mt).length) (h1 : x ∈ fa mt i) (h2 : x ∈ fa mt k) : False := by
  have hi : i < (facesL mt).length := by omega
  rw [fa_eq hi] at h1
  rw [fa_eq hk] at h2
  simp only [facesL_reps, List.getElem_map] at h1 h2
  have hl : (facesL mt).length = (repsF mt).length := by rw [facesL_reps, List.length_map]
  have hr : ∀ j (hj : j < (repsF mt).length), (repsF mt)[j] < mt.length ∧ lstB (nxF mt) mt.length (repsF mt)[j] = true := by
    intro j hj
    have hm := List.getElem_mem hj
    unfold repsF at hm
    rw [List.mem_filter, Bool.and_eq_true] at hm
    exact ⟨List.mem_range.1 hm.1, hm.2.2⟩
  obtain ⟨a1, a2⟩ := hr i (by omega)
  obtain ⟨b1, b2⟩ := hr k (by omega)
  have m1 := mem_trans hP a1 h1 (mem_symm hP b1 h2)
  have l1 := lstB_iff.1 a2 _ m1
  have l2 := lstB_iff.1 b2 _ (mem_symm hP a1 m1)
  have hnd : (repsF mt).Pairwise (· < ·) := by
    unfold repsF
    exact List.Pairwise.filter _ List.pairwise_lt_range
  have := List.pairwise_iff_getElem.1 hnd i k (by omega) (by omega) hik
  omega
theorem fa_cover {x : Nat} (hx : x < mt.length) : ∃ k, k < (facesL mt).length ∧ x ∈ fa mt k := by
  obtain ⟨m, h1, h2, h3, h4, -⟩ := least_mem hP hx
  have hm : cyc (nxF mt) mt.length m ∈ facesL mt := by
    unfold facesL cycsL
    exact List.mem_map_of_mem (List.mem_filter.2 ⟨List.mem_range.2 h2, by rw [h4]; rfl⟩)
  obtain ⟨k, hk, e⟩ := List.getElem_of_mem hm
  exact ⟨k, hk, by rw [fa_eq hk, e]; exact h3⟩
theorem fa_cyc {k x y : Nat} (hk : k < (facesL mt).length) (hx : x ∈ fa mt k) (hy : y ∈ fa mt k) : y ∈ cyc (nxF mt) mt.length x := by
  obtain ⟨a, ha, e⟩ := face_at hk
  rw [fa_eq hk, e] at hx hy
  exact mem_trans hP (cyc_lt hP ha hx) (mem_symm hP ha hx) hy

/-- the row of the faces' numbers, when k faces and j elements of the next one are laid -/
def FIn (mt : List Int) (k j : Nat) (p : List Int) : Prop := ∀ x, x < mt.length → (∀ i, i < k → x ∈ fa mt i → gi p x = (i : Int)) ∧ (x ∈ (fa mt k).take j → gi p x = (k : Int)) ∧ ((∀ i, i < k → x ∉ fa mt i) → x ∉ (fa mt k).take j → gi p x = -1)
omit hP in
theorem fin_start {p : List Int} (h : ∀ j, j < mt.length → gi p j = -1) : FIn mt 0 0 p := fun x hx => ⟨fun i hi => by omega, fun hm => by simp at hm, fun _ _ => h x hx⟩
theorem fin_open {k j : Nat} {p : List Int} (hk : k < (facesL mt).length) (hj : j < (fa mt k).length) (h : FIn mt k j p) : gi p (fa mt k)[j] = -1 := by
  have hm := List.getElem_mem hj
  refine (h _ (fa_lt hP hk hm)).2.2 (fun i hi hmi => fa_apart hP hi hk hmi hm) fun hmt => ?_
  obtain ⟨t, ht, e⟩ := List.getElem_of_mem hmt
  rw [List.getElem_take] at e
  simp at ht
  exact List.pairwise_iff_getElem.1 (fa_nodup hP hk) t j (by omega) hj (by omega) e
theorem fin_step {k j : Nat} {p : List Int} (hk : k < (facesL mt).length) (hj : j < (fa mt k).length) (hl : p.length = mt.length) (h : FIn mt k j p) : FIn mt k (j + 1) (p.set (fa mt k)[j] (k : Int)) := by
  have hm := List.getElem_mem hj
  have hlt := fa_lt hP hk hm
  intro x hx
  obtain ⟨h1, h2, h3⟩ := h x hx
  rw [gi_set (by omega), List.take_succ_eq_append_getElem hj, List.mem_append, List.mem_singleton]
  by_cases e : x = (fa mt k)[j]
  · rw [if_pos e]
    exact ⟨fun i hi hmi => (fa_apart hP hi hk hmi (e ▸ hm)).elim, fun _ => rfl, fun _ hno => (hno (.inr e)).elim⟩
  · rw [if_neg e]
    exact ⟨h1, fun hm => h2 (hm.elim id fun h => absurd h e), fun a b => h3 a fun hm => b (.inl hm)⟩
omit hP in
theorem fin_next {k : Nat} {p : List Int} (h : FIn mt k (fa mt k).length p) : FIn mt (k + 1) 0 p := by
  intro x hx
  obtain ⟨h1, h2, h3⟩ := h x hx
  rw [List.take_length] at h2 h3
  refine ⟨fun i hi hm => ?_, fun hm => by simp at hm, fun a _ => h3 (fun i hi => a i (by omega)) (a k (by omega))⟩
  rcases Nat.lt_or_eq_of_le (Nat.le_of_lt_succ hi) with h | h
  · exact h1 i h hm
  · subst h; exact h2 hm
end
/-- at the end the two sides of an edge bear different numbers -/
theorem fin_end {sg mt : List Int} {L : Int} (hd : IsD sg mt L) {p : List Int} (h : FIn mt (facesL mt).length 0 p) {x : Nat} (hx : x < mt.length) : ∃ a b : Nat, gi p x = (a : Int) ∧ gi p (gn mt x) = (b : Int) ∧ a ≠ b := by
  have hP := nxF_perm hd.2.2.2.2.2.1 hd.2.1
  have hg := (hd.2.2.2.2.2.1.gn hx).2.1
  obtain ⟨a, a1, a2⟩ := fa_cover hP hx
  obtain ⟨b, b1, b2⟩ := fa_cover hP hg
  refine ⟨a, b, (h x hx).1 a a1 a2, (h _ hg).1 b b1 b2, ?_⟩
  rintro rfl
  exact two_sides hd hx (fa_cyc hP a1 a2 b2)

theorem euler_count {sg mt : List Int} {L : Int} (hd : IsD sg mt L) : (facesL mt).length = sg.length + 2 * (graphL mt sg.length).length := by
  have h1 := euler_all hd
  have h2 := graphL_idx hd.2.2.2.2.2.1 hd.2.1
  have hl : (graphL mt sg.length).length = idxAt mt sg.length sg.length := by rw [← h2]; simp
  rw [hl, ← h1]
  unfold facesL cycsL cnt
  rw [List.length_map]
  congr 1
end Go.Proofs.Ytaghemilihaiaaa

