/-
  Connecting two neighbours keeps a matching valid, and what it does to the circles. No program here.
-/
import Derived.Test.YtmmcpahaekpknaaJoinM
import Derived.Test.YtmmcpahaekpknaaPairT
namespace Go.Proofs.Ytmmcpahaekpknaa

/-- the points that stay, and their numbers behind -/
def emb (p k : Nat) : Nat := if k < p then k else k + 2
def dem (p j : Nat) : Nat := if p < j then j - 2 else j

theorem emb_ne (p k : Nat) : emb p k ≠ p ∧ emb p k ≠ p + 1 := by unfold emb; split <;> omega
theorem dem_emb (p k : Nat) : dem p (emb p k) = k := by unfold emb dem; split <;> split <;> omega
theorem emb_dem {p j : Nat} (h0 : j ≠ p) (h1 : j ≠ p + 1) : emb p (dem p j) = j := by unfold emb dem; split <;> split <;> omega
theorem emb_lt {p k n : Nat} (hp : p + 2 ≤ n) (h : k < n - 2) : emb p k < n := by unfold emb; split <;> omega
theorem dem_lt {p j n : Nat} (hp : p + 2 ≤ n) (h : j < n) (h0 : j ≠ p) (h1 : j ≠ p + 1) : dem p j < n - 2 := by unfold dem; split <;> omega
theorem emb_mono {p i j : Nat} : emb p i < emb p j ↔ i < j := by unfold emb; split <;> split <;> omega
theorem dem_mono {p i j : Nat} (h0 : i ≠ p) (h1 : i ≠ p + 1) (h2 : j ≠ p) (h3 : j ≠ p + 1) : dem p i < dem p j ↔ i < j := by unfold dem; split <;> split <;> omega

section
variable {a : List Int} (ha : IsM a) {p : Nat} (hp : p + 2 ≤ a.length)
include ha

theorem gn_inj {i j : Nat} (hi : i < a.length) (hj : j < a.length) (h : gn a i = gn a j) : i = j := by
  have := congrArg (gn a) h
  rwa [(isM_gn ha hi).2.2.1, (isM_gn ha hj).2.2.1] at this

/-- inside an arc the arcs stay inside -/
theorem nc_in {v i : Nat} (hv : v < a.length) (hu : gn a v < v) (h1 : gn a v < i) (h2 : i < v) : gn a v < gn a i ∧ gn a i < v := by
  obtain ⟨g1, g2, g3, g4⟩ := isM_gn ha hv
  obtain ⟨i1, i2, i3, i4⟩ := isM_gn ha (show i < a.length by omega)
  have hN := refnc_of ha.2.2.1 ha.2.2.2
  obtain ⟨u1, u2, u3, u4⟩ := isM_gn ha g1
  have := hN (gn a v) g1 i h1 (by rw [u4, g3]; omega)
  rw [u4, g3, i4] at this
  have n1 : gn a i ≠ v := by intro e; have := gn_inj ha (i := i) (j := gn a v) (by omega) g1 (by rw [e, g3]); omega
  have n2 : gn a i ≠ gn a v := by intro e; have := gn_inj ha (i := i) (j := v) (by omega) hv e; omega
  omega

include hp
theorem part_gn {i : Nat} (_hi : i < a.length) (h0 : i ≠ p) (h1 : i ≠ p + 1) :
    gn (part a p) i = if i = gn a p then gn a (p + 1) else if i = gn a (p + 1) then gn a p else gn a i := by
  obtain ⟨l1, l2, l3, l4⟩ := isM_gn ha (show p < a.length by omega)
  obtain ⟨r1, r2, r3, r4⟩ := isM_gn ha (show p + 1 < a.length by omega)
  unfold part
  split
  · rename_i h
    have hl : gn a p = p + 1 := by omega
    have hr : gn a (p + 1) = p := by rw [← hl, l3]
    rw [if_neg (by omega), if_neg (by omega)]
  · rename_i h
    have hne : gn a p ≠ gn a (p + 1) := fun e => by have := gn_inj ha (i := p) (j := p + 1) (by omega) (by omega) e; omega
    unfold gn at *
    rw [gi_set (by simpa using r1), gi_set l1]
    by_cases e1 : i = (gi a p).toNat
    · rw [if_neg (by omega), if_pos e1, if_pos e1]
    · rw [if_neg e1]
      by_cases e2 : i = (gi a (p + 1)).toNat
      · rw [if_pos e2, if_neg e1, if_pos e2]
      · rw [if_neg e2, if_neg e1, if_neg e2]

theorem part_ok {i : Nat} (hi : i < a.length) (h0 : i ≠ p) (h1 : i ≠ p + 1) :
    gn (part a p) i < a.length ∧ gn (part a p) i ≠ p ∧ gn (part a p) i ≠ p + 1 ∧ gn (part a p) i ≠ i ∧ gn (part a p) (gn (part a p) i) = i := by
  obtain ⟨l1, l2, l3, l4⟩ := isM_gn ha (show p < a.length by omega)
  obtain ⟨r1, r2, r3, r4⟩ := isM_gn ha (show p + 1 < a.length by omega)
  obtain ⟨i1, i2, i3, i4⟩ := isM_gn ha hi
  have hlr : gn a p ≠ gn a (p + 1) := fun e => by have := gn_inj ha (i := p) (j := p + 1) (by omega) (by omega) e; omega
  have inj := fun j (hj : j < a.length) => gn_inj ha (i := i) (j := j) hi hj
  rw [part_gn ha hp hi h0 h1]
  by_cases e1 : i = gn a p
  · have c1 : gn a (p + 1) ≠ p := fun e => by rw [← e, r3] at e1; exact h1 e1
    have c2 : gn a (p + 1) ≠ p + 1 := r2
    rw [if_pos e1, part_gn ha hp r1 c1 c2, if_neg (fun e => hlr e.symm), if_pos rfl]
    exact ⟨r1, c1, c2, by rw [e1]; exact fun e => hlr e.symm, e1.symm⟩
  rw [if_neg e1]
  by_cases e2 : i = gn a (p + 1)
  · have c1 : gn a p ≠ p + 1 := fun e => by rw [← e, l3] at e2; exact h0 e2
    rw [if_pos e2, part_gn ha hp l1 l2 c1, if_pos rfl]
    exact ⟨l1, l2, c1, by rw [e2]; exact hlr, e2.symm⟩
  rw [if_neg e2]
  have c1 : gn a i ≠ p := fun e => e1 (by rw [← e, i3])
  have c2 : gn a i ≠ p + 1 := fun e => e2 (by rw [← e, i3])
  have c3 : gn a i ≠ gn a p := fun e => h0 (inj p (by omega) e)
  have c4 : gn a i ≠ gn a (p + 1) := fun e => h1 (inj (p + 1) (by omega) e)
  rw [part_gn ha hp i1 c1 c2, if_neg c3, if_neg c4]
  exact ⟨i1, c1, c2, i2, i3⟩

theorem part_nc {I Q : Nat} (hQ : Q < a.length) (q0 : Q ≠ p) (q1 : Q ≠ p + 1) (i0 : I ≠ p) (i1 : I ≠ p + 1) (hIQ : I < Q) (hu : gn (part a p) Q < Q) (hI : gn (part a p) Q < I) : gn (part a p) I < Q := by
  obtain ⟨l1, l2, l3, -⟩ := isM_gn ha (show p < a.length by omega)
  obtain ⟨r1, r2, r3, -⟩ := isM_gn ha (show p + 1 < a.length by omega)
  obtain ⟨x1, x2, x3, -⟩ := isM_gn ha hQ
  obtain ⟨y1, y2, y3, -⟩ := isM_gn ha (show I < a.length by omega)
  have hlr : gn a p ≠ gn a (p + 1) := fun e => by have := gn_inj ha (i := p) (j := p + 1) (by omega) (by omega) e; omega
  rw [part_gn ha hp hQ q0 q1] at hu hI
  rw [part_gn ha hp (by omega) i0 i1]
  -- arcs by their right ends
  have A := @nc_in a ha
  by_cases eQ1 : Q = gn a p
  · rw [if_pos eQ1] at hu hI
    have n1 : I ≠ gn a p := by omega
    have n2 : I ≠ gn a (p + 1) := by omega
    rw [if_neg n1, if_neg n2]
    have m1 : gn a I ≠ p := fun e => n1 (by rw [← e, y3])
    have m2 : gn a I ≠ p + 1 := fun e => n2 (by rw [← e, y3])
    have m3 : gn a I ≠ gn a p := fun e => i0 (gn_inj ha (by omega) (by omega) e)
    rcases Nat.lt_or_ge (gn a p) p with hlp | hlp
    · have h2 := A (v := p + 1) (i := I) (by omega) (by omega) hI (by omega)
      rcases Nat.lt_or_ge (gn a I) Q with h3 | h3
      · exact h3
      · exfalso
        have h4 := A (v := p) (i := gn a I) (by omega) hlp (by omega) (by omega)
        rw [y3] at h4
        omega
    · have h1 : gn a p ≠ p + 1 := by omega
      rcases Nat.lt_or_ge (gn a (p + 1)) p with hrp | hrp
      · have h4 := A (v := p + 1) (i := p) (by omega) (by omega) hrp (by omega)
        omega
      · have h4 := A (v := gn a p) (i := I) l1 (by rw [l3]; omega) (by rw [l3]; omega) (by omega)
        omega
  rw [if_neg eQ1] at hu hI
  by_cases eQ2 : Q = gn a (p + 1)
  · rw [if_pos eQ2] at hu hI
    have n1 : I ≠ gn a p := by omega
    have n2 : I ≠ gn a (p + 1) := by omega
    rw [if_neg n1, if_neg n2]
    have hpl : gn a p ≠ p + 1 := fun e => q0 (by rw [eQ2, ← e, l3])
    rcases Nat.lt_or_ge Q p with hrp | hrp
    · have h4 := A (v := p) (i := Q) (by omega) (by omega) hu hrp
      rw [eQ2, r3] at h4
      omega
    · rcases Nat.lt_or_ge (gn a p) p with hlp | hlp
      · rcases Nat.lt_or_ge I p with h | h
        · have := A (v := p) (i := I) (by omega) hlp hI h
          omega
        · have := A (v := gn a (p + 1)) (i := I) r1 (by rw [r3]; omega) (by rw [r3]; omega) (by omega)
          omega
      · have h4 := A (v := gn a p) (i := p + 1) l1 (by rw [l3]; omega) (by rw [l3]; omega) (by omega)
        omega
  rw [if_neg eQ2] at hu hI
  have m1 : gn a Q ≠ p := fun e => eQ1 (by rw [← e, x3])
  have m2 : gn a Q ≠ p + 1 := fun e => eQ2 (by rw [← e, x3])
  have hin := A hQ hu hI hIQ
  by_cases e1 : I = gn a p
  · rw [if_pos e1]
    rw [e1, l3] at hin
    have := A (i := p + 1) hQ hu (by omega) (by omega)
    omega
  rw [if_neg e1]
  by_cases e2 : I = gn a (p + 1)
  · rw [if_pos e2]
    rw [e2, r3] at hin
    have := A (i := p) hQ hu (by omega) (by omega)
    omega
  rw [if_neg e2]
  omega

theorem joinL_gn {k : Nat} (hk : k < a.length - 2) : gn (joinL a p) k = dem p (gn (part a p) (emb p k)) ∧ gi (joinL a p) k = (gn (joinL a p) k : Int) := by
  have he := emb_lt hp hk
  obtain ⟨e0, e1⟩ := emb_ne p k
  obtain ⟨b1, b2⟩ := part_bounds ha hp he
  obtain ⟨c1, c2, c3, c4, c5⟩ := part_ok ha hp he e0 e1
  have h := gi_joinL (p := p) hk
  have e : (if k < p then k else k + 2) = emb p k := rfl
  rw [e] at h
  have hv : gi (part a p) (emb p k) = (gn (part a p) (emb p k) : Int) := by unfold gn; omega
  rw [hv] at h
  unfold shI at h
  have h2 : gn (joinL a p) k = dem p (gn (part a p) (emb p k)) := by
    show (gi (joinL a p) k).toNat = _
    rw [h]
    unfold dem
    split <;> split <;> omega
  refine ⟨h2, ?_⟩
  rw [h2, h]
  unfold dem
  split <;> split <;> omega

/-- the partner of a point that stays -/
theorem emb_joinL {k : Nat} (hk : k < a.length - 2) : emb p (gn (joinL a p) k) = gn (part a p) (emb p k) ∧ gn (joinL a p) k < a.length - 2 := by
  have he := emb_lt hp hk
  obtain ⟨e0, e1⟩ := emb_ne p k
  obtain ⟨c1, c2, c3, c4, c5⟩ := part_ok ha hp he e0 e1
  rw [(joinL_gn ha hp hk).1]
  exact ⟨emb_dem c2 c3, dem_lt hp c1 c2 c3⟩

theorem joinL_isM : IsM (joinL a p) := by
  have hl := joinL_length a p
  have h0 := ha.1
  have h48 := ha.2.1
  refine ⟨by rw [hl]; omega, by rw [hl]; omega, ?_, ?_⟩
  · intro k hk
    rw [hl] at hk
    obtain ⟨h1, h2⟩ := joinL_gn ha hp hk
    obtain ⟨h3, h4⟩ := emb_joinL ha hp hk
    have he := emb_lt hp hk
    obtain ⟨e0, e1⟩ := emb_ne p k
    obtain ⟨c1, c2, c3, c4, c5⟩ := part_ok ha hp he e0 e1
    rw [h2, hl]
    refine ⟨by omega, by omega, ?_, ?_⟩
    · intro e
      have e : gn (joinL a p) k = k := by omega
      rw [e] at h3
      exact c4 h3.symm
    · rw [Int.toNat_natCast, (joinL_gn ha hp h4).2]
      have : gn (joinL a p) (gn (joinL a p) k) = k := by
        rw [(joinL_gn ha hp h4).1, h3, c5, dem_emb]
      rw [this]
  · intro q hq i hi h1 h2
    rw [hl] at hq
    have hik : i < a.length - 2 := by omega
    obtain ⟨q1, q2⟩ := joinL_gn ha hp hq
    obtain ⟨i1, i2⟩ := joinL_gn ha hp hik
    obtain ⟨q3, -⟩ := emb_joinL ha hp hq
    obtain ⟨i3, -⟩ := emb_joinL ha hp hik
    obtain ⟨e0, e1⟩ := emb_ne p q
    obtain ⟨f0, f1⟩ := emb_ne p i
    rw [q2] at h1 h2
    rw [i2]
    have := part_nc ha hp (emb_lt hp hq) e0 e1 f0 f1 (emb_mono.2 hi) (by rw [← q3]; exact emb_mono.2 (by omega)) (by rw [← q3]; exact emb_mono.2 (by omega))
    rw [← i3, emb_mono] at this
    omega
end

/-! ### systems of representatives -/
def Sdr (a b : List Int) (l : List Nat) : Prop := l.Nodup ∧ (∀ x, x ∈ l → x < a.length) ∧ (∀ x, x ∈ l → ∀ y, y ∈ l → Con a b x y → x = y) ∧ ∀ i, i < a.length → ∃ x, x ∈ l ∧ Con a b x i

section
variable {a b : List Int} (ha : IsM a) (hb : IsM b) (hl : a.length = b.length)
include ha hb hl

theorem sdr_le {l m : List Nat} (h1 : Sdr a b l) (h2 : Sdr a b m) : l.length ≤ m.length := by
  obtain ⟨n1, t1, u1, c1⟩ := h1
  obtain ⟨n2, t2, u2, c2⟩ := h2
  have hch : ∀ x, ∃ y, x ∈ l → y ∈ m ∧ Con a b y x := fun x => by
    by_cases hx : x ∈ l
    · obtain ⟨y, hy, hc⟩ := c2 x (t1 x hx)
      exact ⟨y, fun _ => ⟨hy, hc⟩⟩
    · exact ⟨0, fun h => absurd h hx⟩
  obtain ⟨f, hf⟩ := Classical.axiomOfChoice hch
  have hnd : (l.map f).Nodup := by
    rw [List.nodup_iff_pairwise_ne] at n1 ⊢
    rw [List.pairwise_map]
    refine n1.imp_of_mem fun {x y} hx hy hne e => hne ?_
    have h3 := (hf x hx).2
    have h4 := (hf y hy).2
    rw [← e] at h4
    exact u1 x hx y hy ((Con.symm ha hb hl (t2 _ (hf x hx).1) h3).trans h4)
  have := hnd.length_le_of_subset (l₂ := m) (by
    intro z hz
    obtain ⟨x, hx, rfl⟩ := List.mem_map.1 hz
    exact (hf x hx).1)
  rwa [List.length_map] at this

open Classical in
theorem reps_sdr : Sdr a b (reps a b) := by
  have mem : ∀ k, k ∈ reps a b ↔ k < a.length ∧ ∀ k', k' < k → ¬ Con a b k' k := by
    intro k
    unfold reps
    rw [List.mem_filter, List.mem_range'_1, decide_eq_true_iff]
    constructor
    · rintro ⟨⟨_, h⟩, h2⟩; exact ⟨by omega, h2⟩
    · rintro ⟨h, h2⟩; exact ⟨⟨Nat.zero_le _, by omega⟩, h2⟩
  refine ⟨List.Nodup.sublist List.filter_sublist (List.nodup_range' (step := 1)), fun x hx => ((mem x).1 hx).1, ?_, ?_⟩
  · intro x hx y hy hc
    obtain ⟨x1, x2⟩ := (mem x).1 hx
    obtain ⟨y1, y2⟩ := (mem y).1 hy
    rcases Nat.lt_trichotomy x y with h | h | h
    · exact absurd hc (y2 x h)
    · exact h
    · exact absurd (Con.symm ha hb hl x1 hc) (x2 y h)
  · intro i
    induction i using Nat.strongRecOn with
    | ind i ih =>
      intro hi
      by_cases h : ∀ k', k' < i → ¬ Con a b k' i
      · exact ⟨i, (mem i).2 ⟨hi, h⟩, .refl⟩
      · have : ∃ k', k' < i ∧ Con a b k' i := Classical.byContradiction fun hn => h fun k' h1 h2 => hn ⟨k', h1, h2⟩
        obtain ⟨k', h1, h2⟩ := this
        obtain ⟨x, hx, hc⟩ := ih k' h1 (by omega)
        exact ⟨x, hx, hc.trans h2⟩

theorem pairN_sdr {l : List Nat} (h : Sdr a b l) : pairN a b = l.length := by
  rw [pairN_reps ha hb hl]
  exact Nat.le_antisymm (sdr_le ha hb hl (reps_sdr ha hb hl) h) (sdr_le ha hb hl h (reps_sdr ha hb hl))
end

/-! ### the circles -/
section
variable {a b : List Int} (ha : IsM a) (hb : IsM b) (hl : a.length = b.length) {p : Nat} (hp : p + 2 ≤ a.length) (hbp : gn b p = p + 1)
include ha hb hl hp hbp

omit ha in
theorem b_facts : gn b (p + 1) = p ∧ ∀ i, i < a.length → i ≠ p → i ≠ p + 1 → gn (part b p) i = gn b i := by
  have h1 : gn b (p + 1) = p := by rw [← hbp, (isM_gn hb (show p < b.length by omega)).2.2.1]
  refine ⟨h1, fun i hi h0 h2 => ?_⟩
  rw [part_gn hb (by omega) (by omega) h0 h2, hbp, h1, if_neg h2, if_neg h0]

theorem con_up {i j : Nat} (hi : i < a.length - 2) (h : Con (joinL a p) (joinL b p) i j) : Con a b (emb p i) (emb p j) := by
  have hlj : (joinL a p).length = (joinL b p).length := by rw [joinL_length, joinL_length, hl]
  have lt := fun {j} (h : Con (joinL a p) (joinL b p) i j) => Con.lt (joinL_isM ha hp) (joinL_isM hb (by omega)) hlj (by rw [joinL_length]; exact hi) h
  induction h with
  | refl => exact .refl
  | @stepA j h ih =>
    have hj := lt h
    rw [joinL_length] at hj
    obtain ⟨e0, e1⟩ := emb_ne p j
    rw [(emb_joinL ha hp hj).1, part_gn ha hp (emb_lt hp hj) e0 e1]
    split
    · rename_i e
      rw [e] at ih
      have := ih.stepA
      rw [(isM_gn ha (show p < a.length by omega)).2.2.1] at this
      have := this.stepB
      rw [hbp] at this
      exact this.stepA
    split
    · rename_i e
      rw [e] at ih
      have := ih.stepA
      rw [(isM_gn ha (show p + 1 < a.length by omega)).2.2.1] at this
      have := this.stepB
      rw [(b_facts hb hl hp hbp).1] at this
      exact this.stepA
    · exact ih.stepA
  | @stepB j h ih =>
    have hj := lt h
    rw [joinL_length] at hj
    obtain ⟨e0, e1⟩ := emb_ne p j
    rw [(emb_joinL hb (by omega) (by omega)).1, (b_facts hb hl hp hbp).2 _ (emb_lt hp hj) e0 e1]
    exact ih.stepB

/-- what a point that is reached from emb i says -/
def Reach (a b : List Int) (p i y : Nat) : Prop :=
  (y ≠ p → y ≠ p + 1 → Con (joinL a p) (joinL b p) i (dem p y)) ∧
  ((y = p ∨ y = p + 1) → gn a p ≠ p + 1 ∧ Con (joinL a p) (joinL b p) i (dem p (gn a p)) ∧ Con (joinL a p) (joinL b p) i (dem p (gn a (p + 1))))

theorem con_down {i y : Nat} (hi : i < a.length - 2) (h : Con a b (emb p i) y) : Reach a b p i y := by
  obtain ⟨l1, l2, l3, -⟩ := isM_gn ha (show p < a.length by omega)
  obtain ⟨r1, r2, r3, -⟩ := isM_gn ha (show p + 1 < a.length by omega)
  obtain ⟨bp1, bpart⟩ := b_facts hb hl hp hbp
  have lt := fun {y} (h : Con a b (emb p i) y) => Con.lt ha hb hl (emb_lt hp hi) h
  have hlr : gn a p ≠ gn a (p + 1) := fun e => by have := gn_inj ha (i := p) (j := p + 1) (by omega) (by omega) e; omega
  induction h with
  | refl =>
    obtain ⟨e0, e1⟩ := emb_ne p i
    refine ⟨fun _ _ => by rw [dem_emb]; exact .refl, fun h => ?_⟩
    rcases h with h | h
    · exact absurd h e0
    · exact absurd h e1
  | @stepA y h ih =>
    have hy := lt h
    obtain ⟨y1, y2, y3, -⟩ := isM_gn ha hy
    by_cases c : y = p ∨ y = p + 1
    · obtain ⟨n1, n2, n3⟩ := ih.2 c
      have hr : gn a (p + 1) ≠ p := fun e => n1 (by have := r3; rw [e] at this; exact this)
      rcases c with rfl | rfl
      · exact ⟨fun _ _ => n2, fun h => by rcases h with h | h; exact absurd h l2; exact absurd h n1⟩
      · exact ⟨fun _ _ => n3, fun h => by rcases h with h | h; exact absurd h hr; exact absurd h r2⟩
    · have c0 : y ≠ p := fun e => c (.inl e)
      have c1 : y ≠ p + 1 := fun e => c (.inr e)
      have hc := ih.1 c0 c1
      have hd := dem_lt hp hy c0 c1
      have hstep := hc.stepA
      have e3 : gn (joinL a p) (dem p y) = dem p (gn (part a p) y) := by rw [(joinL_gn ha hp hd).1, emb_dem c0 c1]
      rw [e3, part_gn ha hp hy c0 c1] at hstep
      by_cases e1 : y = gn a p
      · rw [if_pos e1] at hstep
        have hg : gn a y = p := by rw [e1, l3]
        rw [hg]
        refine ⟨fun h => absurd rfl h, fun _ => ⟨fun e => c1 (by rw [e1, e]), by rw [← e1]; exact hc, hstep⟩⟩
      rw [if_neg e1] at hstep
      by_cases e2 : y = gn a (p + 1)
      · rw [if_pos e2] at hstep
        have hg : gn a y = p + 1 := by rw [e2, r3]
        rw [hg]
        refine ⟨fun _ h => absurd rfl h, fun _ => ⟨fun e => c0 (by rw [e2, ← e, l3]), hstep, by rw [← e2]; exact hc⟩⟩
      rw [if_neg e2] at hstep
      refine ⟨fun _ _ => hstep, fun h => ?_⟩
      rcases h with h | h
      · exact absurd (by rw [← h, y3]) e1
      · exact absurd (by rw [← h, y3]) e2
  | @stepB y h ih =>
    have hy := lt h
    obtain ⟨y1, y2, y3, -⟩ := isM_gn hb (show y < b.length by omega)
    by_cases c : y = p ∨ y = p + 1
    · have hn := ih.2 c
      have hg : gn b y = p ∨ gn b y = p + 1 := by
        rcases c with rfl | rfl
        · exact .inr hbp
        · exact .inl bp1
      exact ⟨fun h0 h1 => by rcases hg with h | h; exact absurd h h0; exact absurd h h1, fun _ => hn⟩
    · have c0 : y ≠ p := fun e => c (.inl e)
      have c1 : y ≠ p + 1 := fun e => c (.inr e)
      have hc := ih.1 c0 c1
      have hd := dem_lt hp hy c0 c1
      have hstep := hc.stepB
      have e3 : gn (joinL b p) (dem p y) = dem p (gn b y) := by rw [(joinL_gn hb (by omega) (by omega)).1, emb_dem c0 c1, bpart y hy c0 c1]
      rw [e3] at hstep
      refine ⟨fun _ _ => hstep, fun h => ?_⟩
      rcases h with h | h
      · exact absurd (by rw [← y3, h, hbp]) c1
      · exact absurd (by rw [← y3, h, bp1]) c0

theorem pair_join : (pairN a b : Int) = circ a p + pairN (joinL a p) (joinL b p) := by
  have hja := joinL_isM ha hp
  have hjb := joinL_isM hb (show p + 2 ≤ b.length by omega)
  have hlj : (joinL a p).length = (joinL b p).length := by rw [joinL_length, joinL_length, hl]
  obtain ⟨n1, t1, u1, c1⟩ := reps_sdr hja hjb hlj
  rw [joinL_length] at t1 c1
  obtain ⟨l1, l2, l3, l4⟩ := isM_gn ha (show p < a.length by omega)
  obtain ⟨r1, r2, r3, -⟩ := isM_gn ha (show p + 1 < a.length by omega)
  have hnd : ((reps (joinL a p) (joinL b p)).map (emb p)).Nodup := by
    rw [List.nodup_iff_pairwise_ne] at n1 ⊢
    rw [List.pairwise_map]
    exact n1.imp fun {x y} hne e => hne (by have := congrArg (dem p) e; rwa [dem_emb, dem_emb] at this)
  have huniq : ∀ x, x ∈ (reps (joinL a p) (joinL b p)).map (emb p) → ∀ y, y ∈ (reps (joinL a p) (joinL b p)).map (emb p) → Con a b x y → x = y := by
    intro x hx y hy hc
    obtain ⟨i, hi, rfl⟩ := List.mem_map.1 hx
    obtain ⟨j, hj, rfl⟩ := List.mem_map.1 hy
    obtain ⟨f0, f1⟩ := emb_ne p j
    have := (con_down ha hb hl hp hbp (t1 i hi) hc).1 f0 f1
    rw [dem_emb] at this
    rw [u1 i hi j hj this]
  have hcov : ∀ i, i < a.length → i ≠ p → i ≠ p + 1 → ∃ x, x ∈ (reps (joinL a p) (joinL b p)).map (emb p) ∧ Con a b x i := by
    intro i hi h0 h1
    obtain ⟨x, hx, hc⟩ := c1 (dem p i) (dem_lt hp hi h0 h1)
    have := con_up ha hb hl hp hbp (t1 x hx) hc
    rw [emb_dem h0 h1] at this
    exact ⟨emb p x, List.mem_map.2 ⟨x, hx, rfl⟩, this⟩
  have hlt : ∀ x, x ∈ (reps (joinL a p) (joinL b p)).map (emb p) → x < a.length := by
    intro x hx
    obtain ⟨i, hi, rfl⟩ := List.mem_map.1 hx
    exact emb_lt hp (t1 i hi)
  rw [pairN_reps hja hjb hlj]
  by_cases hc : gn a p = p + 1
  · have hci : circ a p = 1 := by unfold circ; rw [if_pos (by omega)]
    have hself : ∀ y, Con a b p y → y = p ∨ y = p + 1 := by
      intro y h
      induction h with
      | refl => exact .inl rfl
      | stepA _ ih =>
        rcases ih with rfl | rfl
        · exact .inr hc
        · exact .inl (by rw [← hc, l3])
      | stepB _ ih =>
        rcases ih with rfl | rfl
        · exact .inr hbp
        · exact .inl (b_facts hb hl hp hbp).1
    have hnot : ∀ x, x ∈ (reps (joinL a p) (joinL b p)).map (emb p) → x ≠ p ∧ x ≠ p + 1 := by
      intro x hx
      obtain ⟨i, hi, rfl⟩ := List.mem_map.1 hx
      exact emb_ne p i
    have := pairN_sdr ha hb hl (l := p :: (reps (joinL a p) (joinL b p)).map (emb p)) ⟨List.nodup_cons.2 ⟨fun h => (hnot p h).1 rfl, hnd⟩, ?_, ?_, ?_⟩
    · rw [this, hci]
      simp
      omega
    · intro x hx
      rcases List.mem_cons.1 hx with rfl | hx
      · omega
      · exact hlt x hx
    · intro x hx y hy hxy
      rcases List.mem_cons.1 hx with rfl | hx
      · rcases List.mem_cons.1 hy with rfl | hy
        · rfl
        · rcases hself y hxy with h | h
          · exact h.symm
          · exact absurd h (hnot y hy).2
      · rcases List.mem_cons.1 hy with rfl | hy
        · rcases hself x (Con.symm ha hb hl (hlt x hx) hxy) with h | h
          · exact h
          · exact absurd h (hnot x hx).2
        · exact huniq x hx y hy hxy
    · intro i hi
      by_cases h0 : i = p
      · exact ⟨p, by simp, by rw [h0]; exact .refl⟩
      by_cases h1 : i = p + 1
      · refine ⟨p, by simp, ?_⟩
        rw [h1, ← hc]
        exact Con.refl.stepA
      · obtain ⟨x, hx, hxc⟩ := hcov i hi h0 h1
        exact ⟨x, by simp only [List.mem_cons]; exact .inr hx, hxc⟩
  · have hci : circ a p = 0 := by unfold circ; rw [if_neg (by omega)]
    have hrn : gn a (p + 1) ≠ p := fun e => hc (by have := r3; rw [e] at this; exact this)
    have := pairN_sdr ha hb hl (l := (reps (joinL a p) (joinL b p)).map (emb p)) ⟨hnd, hlt, huniq, ?_⟩
    · rw [this, hci]
      simp
    · intro i hi
      by_cases h0 : i = p
      · obtain ⟨x, hx, hxc⟩ := hcov (gn a p) l1 l2 hc
        refine ⟨x, hx, ?_⟩
        have := hxc.stepA
        rwa [l3, ← h0] at this
      by_cases h1 : i = p + 1
      · obtain ⟨x, hx, hxc⟩ := hcov (gn a (p + 1)) r1 hrn r2
        refine ⟨x, hx, ?_⟩
        have := hxc.stepA
        rwa [r3, ← h1] at this
      · exact hcov i hi h0 h1
end

/-- there is an innermost arc -/
theorem inner_arc {a : List Int} (ha : IsM a) (hne : 0 < a.length) : ∃ p, p + 1 < a.length ∧ gi a p = p + 1 := by
  -- the least right end
  have hex : ∃ q, q < a.length ∧ gn a q < q := by
    obtain ⟨g1, g2, g3, -⟩ := isM_gn ha hne
    exact ⟨gn a 0, g1, by rw [g3]; omega⟩
  have hmin : ∀ n, (∃ q, q < n ∧ q < a.length ∧ gn a q < q) → ∃ q, q < a.length ∧ gn a q < q ∧ ∀ j, j < q → ¬ gn a j < j := by
    intro n
    induction n with
    | zero => rintro ⟨q, h, _⟩; omega
    | succ n ih =>
      rintro ⟨q, h1, h2, h3⟩
      by_cases h : ∃ q, q < n ∧ q < a.length ∧ gn a q < q
      · exact ih h
      · refine ⟨q, h2, h3, fun j hj hlt => h ⟨j, by omega, by omega, hlt⟩⟩
  obtain ⟨q0, hq0, hq0'⟩ := hex
  obtain ⟨q, h1, h2, h3⟩ := hmin a.length ⟨q0, hq0, hq0, hq0'⟩
  obtain ⟨g1, g2, g3, g4⟩ := isM_gn ha h1
  have hq : gn a q = q - 1 := by
    rcases Nat.lt_or_ge (gn a q) (q - 1) with h | h
    · exfalso
      have := nc_in ha (i := q - 1) h1 h2 h (by omega)
      have h4 := h3 (q - 1) (by omega)
      have h5 := (isM_gn ha (show q - 1 < a.length by omega)).2.1
      omega
    · omega
  refine ⟨q - 1, by omega, ?_⟩
  have h5 := (isM_gn ha (show q - 1 < a.length by omega)).2.2.2
  have h6 : gn a (q - 1) = q := by rw [← hq, g3]
  rw [h5, h6]
  omega
end Go.Proofs.Ytmmcpahaekpknaa
