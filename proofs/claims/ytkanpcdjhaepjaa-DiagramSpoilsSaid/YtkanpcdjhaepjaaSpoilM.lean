/-
  Diagrams that are spoilt are not valid: no program here.
-/
import Derived.Test.YtkanpcdjhaepjaaPlane
namespace Go.Proofs.Ytkanpcdjhaepjaa

/-- a strand does not come back to the crossing that it has just left by its over strand -/
theorem no_lasso {sg mt : List Int} {L : Int} (hd : IsD sg mt L) {c : Nat} (hc : c < sg.length) : gn mt (4 * c + 1) ≠ 4 * c + 3 := by
  intro he
  have hI := hd.2.2.2.2.2.1
  have hn := hd.2.1
  have hO := hd.2.2.2.2.2.2.1
  have he' : gn mt (4 * c + 3) = 4 * c + 1 := by
    have := (hI.gn (show 4 * c + 1 < mt.length by omega)).2.2.2
    rwa [he] at this
  have hP := nxS_perm hI hn
  let w : Nat → Int := fun h => if h = 4 * c + 1 then 1 else if h = 4 * c + 3 then -1 else 0
  have hw1 : w (4 * c + 1) = 1 := if_pos rfl
  have hw3 : w (4 * c + 3) = -1 := by
    show (if _ then _ else _) = _
    rw [if_neg (by omega), if_pos rfl]
  have hw0 : ∀ h, h ≠ 4 * c + 1 → h ≠ 4 * c + 3 → w h = 0 := fun h h1 h2 => by
    show (if _ then _ else _) = _
    rw [if_neg h1, if_neg h2]
  obtain ⟨p, p1, p2⟩ := potential hd zGp w (fun h hh => by
    show w (gn mt h) = - w h
    by_cases h1 : h = 4 * c + 1
    · rw [h1, he, hw1, hw3]
    · by_cases h2 : h = 4 * c + 3
      · rw [h2, he', hw1, hw3]; rfl
      · rw [hw0 h h1 h2, hw0 _ (fun e => h2 ?_) (fun e => h1 ?_)]
        · rfl
        · have := (hI.gn hh).2.2.2
          rw [e, he] at this
          exact this.symm
        · have := (hI.gn hh).2.2.2
          rw [e, he'] at this
          exact this.symm) (fun d hd' => by
    unfold VtxOk
    show w (4 * d + 3) + (w (4 * d + 2) + (w (4 * d + 1) + w (4 * d))) = 0
    rw [hw0 (4 * d + 2) (by omega) (by omega), hw0 (4 * d) (by omega) (by omega)]
    by_cases e : d = c
    · subst e; rw [hw1, hw3]; rfl
    · rw [hw0 (4 * d + 1) (by omega) (by omega), hw0 (4 * d + 3) (by omega) (by omega)]; rfl)
  -- along the strand
  have step : ∀ g, g < mt.length → p (nxS mt g) = p g - w (turnN (gn mt g) 3) := by
    intro g hg
    have hm := (hI.gn hg).2.1
    have ht : turnN (gn mt g) 3 < mt.length := by rw [hn]; exact turnN_lt (by omega)
    have h1 := p2 (turnN (gn mt g) 3) ht
    have h2 := p1 g hg
    have h3 : p (gn mt (turnN (gn mt g) 3)) = p (nxS mt g) := by
      have h4 := p1 (gn mt (turnN (gn mt g) 3)) (hI.gn ht).2.1
      have e : nxF mt (gn mt (turnN (gn mt g) 3)) = nxS mt g := by
        unfold nxF nxS
        rw [(hI.gn ht).2.2.2, turnN_add]
        unfold turnN; omega
      rw [e] at h4
      exact h4.symm
    have h1' : w (turnN (gn mt g) 3) = p (turnN (gn mt g) 3) + - p (gn mt (turnN (gn mt g) 3)) := h1
    have h2' : p (turnN (gn mt g) 3) = p g := h2
    rw [h3, h2'] at h1'
    omega
  have hmono : ∀ g, g < mt.length → outB sg g = true → p g ≤ p (nxS mt g) := by
    intro g hg ho
    rw [step g hg]
    have hmo := hO g hg
    rw [ho] at hmo
    have hm := (hI.gn hg).2.1
    have : w (turnN (gn mt g) 3) ≤ 0 := by
      by_cases h1 : turnN (gn mt g) 3 = 4 * c + 1
      · have h2 : gn mt g = 4 * c + 2 := by unfold turnN at h1; omega
        rw [h2] at hmo
        exfalso
        apply hmo
        unfold outB
        rw [if_neg (by omega), if_pos (by omega)]
      · by_cases h2 : turnN (gn mt g) 3 = 4 * c + 3
        · rw [h2, hw3]; omega
        · rw [hw0 _ h1 h2]; omega
    omega
  have hg0 := hI.gn (show 4 * c < mt.length by omega)
  have ho0 : outB sg (gn mt (4 * c)) = true := by
    have h1 := hO (4 * c) (by omega)
    have h2 : outB sg (4 * c) = false := by unfold outB; rw [if_neg (by omega), if_neg (by omega), if_neg (by omega)]
    rw [h2] at h1
    cases h3 : outB sg (gn mt (4 * c))
    · rw [h3] at h1; exact absurd rfl h1
    · rfl
  have hstart : p (nxS mt (gn mt (4 * c))) = p (gn mt (4 * c)) + 1 := by
    rw [step _ hg0.2.1, hg0.2.2.2, show turnN (4 * c) 3 = 4 * c + 3 by unfold turnN; omega, hw3]
    omega
  have hup : ∀ k, p (gn mt (4 * c)) + 1 ≤ p (it (nxS mt) (k + 1) (gn mt (4 * c))) := by
    intro k
    induction k with
    | zero => show _ ≤ p (nxS mt (gn mt (4 * c))); omega
    | succ k ih =>
      have ho : outB sg (it (nxS mt) (k + 1) (gn mt (4 * c))) = true := by
        rw [wt_cyc hP (out_nxS hd) hg0.2.1 ((mem_cyc hP hg0.2.1).2 ⟨k + 1, rfl⟩)]; exact ho0
      have := hmono _ (hP.it_lt (k + 1) hg0.2.1) ho
      show _ ≤ p (nxS mt (it (nxS mt) (k + 1) (gn mt (4 * c))))
      omega
  obtain ⟨q1, q2, q3, -⟩ := per_spec hP hg0.2.1
  have := hup (per (nxS mt) mt.length (gn mt (4 * c)) - 1)
  rw [Nat.sub_add_cancel q1, q3] at this
  omega

section
variable {sg mt : List Int} {L : Int} (hd : IsD sg mt L) {c : Nat} (hc : c < sg.length)
include hd hc
theorem flip_no : ¬ IsD (sg.set c (-(gi sg c))) mt L := by
  intro h2
  have hI := hd.2.2.2.2.2.1
  have hn := hd.2.1
  have hlt : 4 * c + 1 < mt.length := by omega
  have h1 := hd.2.2.2.2.2.2.1 _ hlt
  have h3 := h2.2.2.2.2.2.2.1 _ hlt
  have hg := hI.gn hlt
  have hl := no_lasso hd hc
  have hs := hd.2.2.2.2.1 c hc
  have e1 : outB sg (4 * c + 1) = (gi sg c == 1) := by unfold outB; rw [if_pos (by omega), show (4 * c + 1) / 4 = c by omega]
  have e2 : outB (sg.set c (-(gi sg c))) (4 * c + 1) = (-(gi sg c) == 1) := by
    unfold outB
    rw [if_pos (by omega), show (4 * c + 1) / 4 = c by omega, gi_set hc, if_pos rfl]
  have e3 : outB (sg.set c (-(gi sg c))) (gn mt (4 * c + 1)) = outB sg (gn mt (4 * c + 1)) := by
    unfold outB
    by_cases hq : gn mt (4 * c + 1) / 4 = c
    · have n1 : ¬ gn mt (4 * c + 1) % 4 = 1 := by omega
      have n3 : ¬ gn mt (4 * c + 1) % 4 = 3 := by omega
      simp only [n1, n3, if_false]
    · rw [gi_set hc, if_neg hq]
  rw [e1] at h1
  rw [e2, e3] at h3
  revert h1 h3
  cases outB sg (gn mt (4 * c + 1)) <;> rcases hs with e | e <;> rw [e] <;> decide
omit hd in
theorem zero_no {mt : List Int} {L : Int} : ¬ IsD (sg.set c 0) mt L := by
  intro h2
  have := h2.2.2.2.2.1 c (by simpa using hc)
  rw [gi_set hc, if_pos rfl] at this
  omega
theorem short_no : ¬ IsD sg (mt.take (mt.length - 1)) L := by
  intro h2
  have h3 := h2.2.1
  have h4 := hd.2.1
  rw [List.length_take] at h3
  omega
omit hd hc in
theorem many_no (sg mt : List Int) : ¬ IsD sg mt 65 := by
  intro h2
  have := h2.2.2.2.1
  omega
end
end Go.Proofs.Ytkanpcdjhaepjaa
