/-
  Renumbered diagrams: orders, the numbers that they give, signs and mates. No program here.
-/
import Derived.Test.YtaghemilihaiaaaPlane
namespace Go.Proofs.Ytaghemilihaiaaa

/-- the first k numbers of the order are in range and different -/
def InTo (xs : List Int) (n k : Nat) : Prop := (∀ i, i < k → 0 ≤ gi xs i ∧ gi xs i < n) ∧ ∀ i j, i < j → j < k → gi xs i ≠ gi xs j
instance (xs : List Int) (n k : Nat) : Decidable (InTo xs n k) := by
  unfold InTo
  have : Decidable (∀ i j, i < j → j < k → gi xs i ≠ gi xs j) := decidable_of_iff (∀ j, j < k → ∀ i, i < j → gi xs i ≠ gi xs j) ⟨fun h i j h1 h2 => h j h2 i h1, fun h j h2 i h1 => h i j h1 h2⟩
  infer_instance
/-- the order is one of the numbers below n -/
def PermI (xs : List Int) (n : Nat) : Prop := xs.length = n ∧ InTo xs n n
instance (xs : List Int) (n : Nat) : Decidable (PermI xs n) := by unfold PermI; infer_instance

/-- the numbers that the first k places of the order give -/
def NumI (xs : List Int) (n k : Nat) (p : List Int) : Prop := (∀ i, i < k → gi p (gn xs i) = (i : Int)) ∧ ∀ c, c < n → (∀ i, i < k → gn xs i ≠ c) → gi p c = -1

theorem InTo.gn {xs : List Int} {n k i : Nat} (h : InTo xs n k) (hi : i < k) : gi xs i = (Ytaghemilihaiaaa.gn xs i : Int) ∧ Ytaghemilihaiaaa.gn xs i < n := by
  have := h.1 i hi
  unfold Ytaghemilihaiaaa.gn
  omega
theorem InTo.inj {xs : List Int} {n k i j : Nat} (h : InTo xs n k) (hi : i < k) (hj : j < k) (e : Ytaghemilihaiaaa.gn xs i = Ytaghemilihaiaaa.gn xs j) : i = j := by
  have h1 := (h.gn hi).1
  have h2 := (h.gn hj).1
  rcases Nat.lt_trichotomy i j with h3 | h3 | h3
  · exact absurd (by rw [h1, h2, e]) (h.2 i j h3 hj)
  · exact h3
  · exact absurd (by rw [h1, h2, e]) (h.2 j i h3 hi)
theorem InTo.less {xs : List Int} {n k m : Nat} (h : InTo xs n k) (hm : m ≤ k) : InTo xs n m := ⟨fun i hi => h.1 i (by omega), fun i j h1 h2 => h.2 i j h1 (by omega)⟩
theorem InTo.zero (xs : List Int) (n : Nat) : InTo xs n 0 := ⟨fun i hi => by omega, fun i j _ h => by omega⟩
theorem InTo.next {xs : List Int} {n k : Nat} (h : InTo xs n k) (h0 : 0 ≤ gi xs k) (h1 : gi xs k < n) (h2 : ∀ i, i < k → Ytaghemilihaiaaa.gn xs i ≠ Ytaghemilihaiaaa.gn xs k) : InTo xs n (k + 1) := by
  refine ⟨fun i hi => ?_, fun i j hij hj => ?_⟩
  · rcases Nat.lt_or_eq_of_le (Nat.le_of_lt_succ hi) with h3 | rfl
    · exact h.1 i h3
    · exact ⟨h0, h1⟩
  · rcases Nat.lt_or_eq_of_le (Nat.le_of_lt_succ hj) with h3 | rfl
    · exact h.2 i j hij h3
    · intro e
      refine h2 i hij ?_
      unfold Ytaghemilihaiaaa.gn
      rw [e]

theorem num_start {xs p : List Int} {n : Nat} (h : ∀ c, c < n → gi p c = -1) : NumI xs n 0 p := ⟨fun i hi => by omega, fun c hc _ => h c hc⟩
theorem num_step {xs p : List Int} {n k : Nat} (h : InTo xs n (k + 1)) (hp : p.length = n) (hn : NumI xs n k p) : NumI xs n (k + 1) (p.set (gn xs k) (k : Int)) := by
  have hk := h.gn (Nat.lt_succ_self k)
  refine ⟨fun i hi => ?_, fun c hc hno => ?_⟩
  · rw [gi_set (by omega)]
    by_cases e : gn xs i = gn xs k
    · rw [if_pos e, h.inj hi (Nat.lt_succ_self k) e]
    · rw [if_neg e]
      exact hn.1 i (by
        have : i ≠ k := by rintro rfl; exact e rfl
        omega)
  · rw [gi_set (by omega), if_neg fun e => hno k (Nat.lt_succ_self k) e.symm]
    exact hn.2 c hc fun i hi => hno i (by omega)
/-- is the number taken? -/
theorem num_test {xs p : List Int} {n k c : Nat} (hn : NumI xs n k p) (hc : c < n) : 0 ≤ gi p c ↔ ∃ i, i < k ∧ gn xs i = c := by
  constructor
  · intro h
    apply Classical.byContradiction
    intro hno
    have := hn.2 c hc fun i hi e => hno ⟨i, hi, e⟩
    omega
  · rintro ⟨i, hi, rfl⟩
    rw [hn.1 i hi]
    omega

/-- the place of a number in the order -/
def ivX (xs : List Int) (n c : Nat) : Nat := ((List.range n).filter fun i => decide (gn xs i = c)).headD 0
section
variable {xs : List Int} {n : Nat} (hP : PermI xs n)
include hP
theorem perm_lt {i : Nat} (hi : i < n) : gn xs i < n := (hP.2.gn hi).2
theorem perm_surj {c : Nat} (hc : c < n) : ∃ i, i < n ∧ gn xs i = c := by
  apply Classical.byContradiction
  intro hno
  have hnd : ((List.range n).map (gn xs)).Nodup := by
    rw [List.Nodup, List.pairwise_map]
    refine (List.pairwise_lt_range (n := n)).imp_of_mem ?_
    intro a b ha hb hab e
    rw [List.mem_range] at ha hb
    have := hP.2.inj ha hb e
    omega
  have hsub : (List.range n).map (gn xs) ⊆ (List.range n).erase c := by
    intro x hx
    rw [List.mem_map] at hx
    obtain ⟨i, hi, rfl⟩ := hx
    rw [List.mem_range] at hi
    rw [List.Nodup.mem_erase_iff List.nodup_range]
    exact ⟨fun e => hno ⟨i, hi, e⟩, List.mem_range.2 (perm_lt hP hi)⟩
  have h1 := hnd.length_le_of_subset hsub
  rw [List.length_map, List.length_erase_of_mem (List.mem_range.2 hc)] at h1
  simp at h1
  omega
theorem iv_spec {c : Nat} (hc : c < n) : ivX xs n c < n ∧ gn xs (ivX xs n c) = c := by
  obtain ⟨i, hi, e⟩ := perm_surj hP hc
  have hm : i ∈ (List.range n).filter fun i => decide (gn xs i = c) := List.mem_filter.2 ⟨List.mem_range.2 hi, decide_eq_true e⟩
  unfold ivX
  cases hl : (List.range n).filter fun i => decide (gn xs i = c) with
  | nil => rw [hl] at hm; simp at hm
  | cons a l =>
    have ha : a ∈ (List.range n).filter fun i => decide (gn xs i = c) := by rw [hl]; exact List.mem_cons_self ..
    rw [List.mem_filter, List.mem_range, decide_eq_true_eq] at ha
    exact ha
theorem iv_gn {i : Nat} (hi : i < n) : ivX xs n (gn xs i) = i := by
  obtain ⟨h1, h2⟩ := iv_spec hP (perm_lt hP hi)
  exact hP.2.inj h1 hi h2
end
theorem num_end {xs p : List Int} {n : Nat} (hP : PermI xs n) (hn : NumI xs n n p) {c : Nat} (hc : c < n) : gi p c = (ivX xs n c : Int) := by
  obtain ⟨h1, h2⟩ := iv_spec hP hc
  have := hn.1 _ h1
  rw [h2] at this
  exact this

/-- the half-edge of the old diagram that bears the number h in the new one; and back -/
def rho (xs : List Int) (h : Nat) : Nat := 4 * gn xs (h / 4) + h % 4
def rhi (xs : List Int) (n h : Nat) : Nat := 4 * ivX xs n (h / 4) + h % 4
def renS (sg xs : List Int) : List Int := (List.range sg.length).map fun i => gi sg (gn xs i)
def renM (mt xs : List Int) (n : Nat) : List Int := (List.range (4 * n)).map fun h => (rhi xs n (gn mt (rho xs h)) : Int)
theorem renS_length (sg xs : List Int) : (renS sg xs).length = sg.length := by simp [renS]
theorem renM_length (mt xs : List Int) (n : Nat) : (renM mt xs n).length = 4 * n := by simp [renM]
theorem gi_renS {sg xs : List Int} {i : Nat} (h : i < sg.length) : gi (renS sg xs) i = gi sg (gn xs i) := by simp [gi, renS, h]
theorem gi_renM {mt xs : List Int} {n h : Nat} (hh : h < 4 * n) : gi (renM mt xs n) h = (rhi xs n (gn mt (rho xs h)) : Int) := by
  unfold renM
  rw [gi_lt (by simpa using hh)]
  simp
theorem gn_renM {mt xs : List Int} {n h : Nat} (hh : h < 4 * n) : gn (renM mt xs n) h = rhi xs n (gn mt (rho xs h)) := by
  unfold gn
  rw [gi_renM hh]
  rfl

/-- the signs and mates when k crossings and s slots of the next one are laid -/
def RenS (sg xs : List Int) (k : Nat) (p : List Int) : Prop := p.length = sg.length ∧ ∀ i, i < k → gi p i = gi sg (gn xs i)
def RenM (mt xs : List Int) (n k : Nat) (p : List Int) : Prop := p.length = 4 * n ∧ ∀ h, h < k → gi p h = (rhi xs n (gn mt (rho xs h)) : Int)
theorem renS_step {sg xs p : List Int} {k : Nat} (hk : k < sg.length) (h : RenS sg xs k p) : RenS sg xs (k + 1) (p.set k (gi sg (gn xs k))) := by
  refine ⟨by rw [List.length_set]; exact h.1, fun i hi => ?_⟩
  rw [gi_set (by rw [h.1]; exact hk)]
  split
  · rename_i e; rw [e]
  · exact h.2 i (by omega)
theorem renM_step {mt xs p : List Int} {n k : Nat} (hk : k < 4 * n) (h : RenM mt xs n k p) : RenM mt xs n (k + 1) (p.set k (rhi xs n (gn mt (rho xs k)) : Int)) := by
  refine ⟨by rw [List.length_set]; exact h.1, fun i hi => ?_⟩
  rw [gi_set (by rw [h.1]; exact hk)]
  split
  · rename_i e; rw [e]
  · exact h.2 i (by omega)
theorem renS_end {sg xs p : List Int} (h : RenS sg xs sg.length p) : p = renS sg xs :=
  ext_gi (by rw [h.1, renS_length]) fun k hk => by rw [h.2 k (by rw [← h.1]; exact hk), gi_renS (by rw [← h.1]; exact hk)]
theorem renM_end {mt xs p : List Int} {n : Nat} (h : RenM mt xs n (4 * n) p) : p = renM mt xs n :=
  ext_gi (by rw [h.1, renM_length]) fun k hk => by rw [h.2 k (by rw [← h.1]; exact hk), gi_renM (by rw [← h.1]; exact hk)]
/-! ### as the reference does it -/
theorem rho_lt {xs : List Int} {n h : Nat} (hP : PermI xs n) (hh : h < 4 * n) : rho xs h < 4 * n := by
  have := perm_lt hP (show h / 4 < n by omega)
  unfold rho
  omega
theorem rhi_lt {xs : List Int} {n h : Nat} (hP : PermI xs n) (hh : h < 4 * n) : rhi xs n h < 4 * n := by
  have := (iv_spec hP (show h / 4 < n by omega)).1
  unfold rhi
  omega
theorem rho_rhi {xs : List Int} {n h : Nat} (hP : PermI xs n) (hh : h < 4 * n) : rho xs (rhi xs n h) = h := by
  have := (iv_spec hP (show h / 4 < n by omega)).2
  unfold rho rhi
  rw [show (4 * ivX xs n (h / 4) + h % 4) / 4 = ivX xs n (h / 4) by omega, this]
  omega
theorem rhi_rho {xs : List Int} {n h : Nat} (hP : PermI xs n) (hh : h < 4 * n) : rhi xs n (rho xs h) = h := by
  have := iv_gn hP (show h / 4 < n by omega)
  unfold rhi rho
  rw [show (4 * gn xs (h / 4) + h % 4) / 4 = gn xs (h / 4) by omega, this]
  omega
theorem rhi_inj {xs : List Int} {n a b : Nat} (hP : PermI xs n) (ha : a < 4 * n) (hb : b < 4 * n) (h : rhi xs n a = rhi xs n b) : a = b := by
  rw [← rho_rhi hP ha, h, rho_rhi hP hb]
theorem rho_inj {xs : List Int} {n a b : Nat} (hP : PermI xs n) (ha : a < 4 * n) (hb : b < 4 * n) (h : rho xs a = rho xs b) : a = b := by
  rw [← rhi_rho hP ha, h, rhi_rho hP hb]

/-- the places of the first k numbers of the order are laid -/
def AtI (xs : List Int) (n k : Nat) (p : List Int) : Prop := p.length = n ∧ ∀ i, i < k → gi p (gn xs i) = (i : Int)
theorem at_step {xs p : List Int} {n k : Nat} (hP : PermI xs n) (hk : k < n) (h : AtI xs n k p) : AtI xs n (k + 1) (p.set (gn xs k) (k : Int)) := by
  have hl := perm_lt hP hk
  refine ⟨by rw [List.length_set]; exact h.1, fun i hi => ?_⟩
  rw [gi_set (by rw [h.1]; exact hl)]
  by_cases e : gn xs i = gn xs k
  · rw [if_pos e, hP.2.inj (by omega) hk e]
  · rw [if_neg e]
    exact h.2 i (by
      have : i ≠ k := by rintro rfl; exact e rfl
      omega)
theorem at_end {xs p : List Int} {n c : Nat} (hP : PermI xs n) (h : AtI xs n n p) (hc : c < n) : gi p c = (ivX xs n c : Int) := by
  obtain ⟨h1, h2⟩ := iv_spec hP hc
  have := h.2 _ h1
  rw [h2] at this
  exact this
def RfS (sg xs : List Int) (k : Nat) (q : List Int) : Prop := q.length = sg.length ∧ ∀ c, c < k → gi q (ivX xs sg.length c) = gi sg c
def RfM (mt xs : List Int) (n k : Nat) (r : List Int) : Prop := r.length = 4 * n ∧ ∀ h, h < k → gi r (rhi xs n h) = (rhi xs n (gn mt h) : Int)
theorem rfS_step {sg xs q : List Int} {k : Nat} (hP : PermI xs sg.length) (hk : k < sg.length) (h : RfS sg xs k q) : RfS sg xs (k + 1) (q.set (ivX xs sg.length k) (gi sg k)) := by
  refine ⟨by rw [List.length_set]; exact h.1, fun c hc => ?_⟩
  have hi := iv_spec hP hk
  rw [gi_set (by rw [h.1]; exact hi.1)]
  by_cases e : ivX xs sg.length c = ivX xs sg.length k
  · rw [if_pos e]
    have := (iv_spec hP (show c < sg.length by omega)).2
    rw [← this, e, hi.2]
  · rw [if_neg e]
    exact h.2 c (by
      have : c ≠ k := by rintro rfl; exact e rfl
      omega)
theorem rfM_step {mt xs r : List Int} {n k : Nat} (hP : PermI xs n) (hk : k < 4 * n) (h : RfM mt xs n k r) : RfM mt xs n (k + 1) (r.set (rhi xs n k) (rhi xs n (gn mt k) : Int)) := by
  refine ⟨by rw [List.length_set]; exact h.1, fun c hc => ?_⟩
  rw [gi_set (by rw [h.1]; exact rhi_lt hP hk)]
  by_cases e : rhi xs n c = rhi xs n k
  · rw [if_pos e, rhi_inj hP (by omega) hk e]
  · rw [if_neg e]
    exact h.2 c (by
      have : c ≠ k := by rintro rfl; exact e rfl
      omega)
theorem rfS_end {sg xs q : List Int} (hP : PermI xs sg.length) (h : RfS sg xs sg.length q) : q = renS sg xs :=
  ext_gi (by rw [h.1, renS_length]) fun k hk => by
    rw [h.1] at hk
    rw [gi_renS hk, ← h.2 _ (perm_lt hP hk), iv_gn hP hk]
theorem rfM_end {mt xs r : List Int} {n : Nat} (hP : PermI xs n) (h : RfM mt xs n (4 * n) r) : r = renM mt xs n :=
  ext_gi (by rw [h.1, renM_length]) fun k hk => by
    rw [h.1] at hk
    rw [gi_renM hk, ← h.2 _ (rho_lt hP hk), rhi_rho hP hk]

/-- is x among the first k? -/
def inK (xs : List Int) (x : Int) (k : Nat) : Prop := ∃ i, i < k ∧ gi xs i = x
/-- all numbers below n are in the list: it is an order -/
theorem perm_of_all {xs : List Int} {n : Nat} (hl : xs.length = n) (h : ∀ i : Nat, i < n → inK xs (i : Int) n) : PermI xs n := by
  have hex : ∀ i : Nat, ∃ m : Nat, i < n → m < n ∧ gi xs m = (i : Int) := by
    intro i
    by_cases hi : i < n
    · obtain ⟨m, h1, h2⟩ := h i hi
      exact ⟨m, fun _ => ⟨h1, h2⟩⟩
    · exact ⟨0, fun h => absurd h hi⟩
  obtain ⟨f, hf⟩ := Classical.axiomOfChoice hex
  have hg : ∀ i, i < n → gi ((List.range n).map fun i => (f i : Int)) i = (f i : Int) := fun i hi => by
    rw [gi_lt (by simpa using hi)]
    simp
  have hgn : ∀ i, i < n → gn ((List.range n).map fun i => (f i : Int)) i = f i := fun i hi => by
    unfold gn
    rw [hg i hi]
    rfl
  have hP : PermI ((List.range n).map fun i => (f i : Int)) n := by
    refine ⟨by simp, fun i hi => ?_, fun i j hij hj e => ?_⟩
    · rw [hg i hi]
      have := (hf i hi).1
      omega
    · rw [hg i (by omega), hg j hj] at e
      have e' : f i = f j := by omega
      have h1 := (hf i (by omega)).2
      have h2 := (hf j hj).2
      rw [e', h2] at h1
      omega
  have hs : ∀ j, j < n → ∃ i, i < n ∧ f i = j := fun j hj => by
    obtain ⟨i, hi, e⟩ := perm_surj hP hj
    exact ⟨i, hi, by rw [← hgn i hi]; exact e⟩
  refine ⟨hl, fun j hj => ?_, fun a b hab hb e => ?_⟩
  · obtain ⟨i, hi, rfl⟩ := hs j hj
    rw [(hf i hi).2]
    omega
  · obtain ⟨i, hi, rfl⟩ := hs a (by omega)
    obtain ⟨j, hj, rfl⟩ := hs b hb
    rw [(hf i hi).2, (hf j hj).2] at e
    have : i = j := by omega
    subst this
    omega
theorem all_of_perm {xs : List Int} {n : Nat} (hP : PermI xs n) {i : Nat} (hi : i < n) : inK xs (i : Int) n := by
  obtain ⟨j, hj, e⟩ := perm_surj hP hi
  exact ⟨j, hj, by rw [(hP.2.gn hj).1, e]⟩
end Go.Proofs.Ytaghemilihaiaaa

