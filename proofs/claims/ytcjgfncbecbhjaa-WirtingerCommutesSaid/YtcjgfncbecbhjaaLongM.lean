/-
  The longitude of a strand, as it is read off. No program here.
-/
import Derived.Test.YtcjgfncbecbhjaaBalM
namespace Go.Proofs.Ytcjgfncbecbhjaa

/-- a is the number of an arc of strand i, among its first k half-edges -/
def ownB (sg mt : List Int) (i k a : Nat) : Bool := ((stN sg mt i).take k).any fun h => decide (arN sg mt h = a)
theorem ownB_zero (sg mt : List Int) (i a : Nat) : ownB sg mt i 0 a = false := rfl
theorem ownB_succ {sg mt : List Int} {i k a : Nat} (h : k < (stN sg mt i).length) : ownB sg mt i (k + 1) a = (ownB sg mt i k a || decide (arN sg mt (gN (stN sg mt i) k) = a)) := by
  unfold ownB
  rw [List.take_succ_eq_append_getElem h, List.any_append, gN_lt h]
  simp
/-- where half-edge j of strand i arrives -/
def mN (sg mt : List Int) (i j : Nat) : Nat := gn mt (gN (stN sg mt i) j)
/-- the letters, and the sum of the signs, over the first j half-edges -/
def lnL (sg mt : List Int) (i : Nat) : Nat → List Int
  | 0 => []
  | j + 1 => if mN sg mt i j % 4 = 0 then lnL sg mt i j ++ [gi sg (mN sg mt i j / 4) * ((arN sg mt (mN sg mt i j + 1) : Int) + 1)] else lnL sg mt i j
def lnS (sg mt : List Int) (i : Nat) : Nat → Int
  | 0 => 0
  | j + 1 => if mN sg mt i j % 4 = 0 then (if ownB sg mt i (stN sg mt i).length (arN sg mt (mN sg mt i j + 1)) = true then lnS sg mt i j + gi sg (mN sg mt i j / 4) else lnS sg mt i j) else lnS sg mt i j
theorem lnS_succ (sg mt : List Int) (i j : Nat) : lnS sg mt i (j + 1) = if mN sg mt i j % 4 = 0 then (if ownB sg mt i (stN sg mt i).length (arN sg mt (mN sg mt i j + 1)) = true then lnS sg mt i j + gi sg (mN sg mt i j / 4) else lnS sg mt i j) else lnS sg mt i j := rfl
theorem lnL_succ (sg mt : List Int) (i j : Nat) : lnL sg mt i (j + 1) = if mN sg mt i j % 4 = 0 then lnL sg mt i j ++ [gi sg (mN sg mt i j / 4) * ((arN sg mt (mN sg mt i j + 1) : Int) + 1)] else lnL sg mt i j := rfl
/-- the meridian at which the longitude begins -/
def lnF (sg mt : List Int) (i : Nat) : Int := (arN sg mt (gN (stN sg mt i) 0) : Int) + 1
def lnT (sg mt : List Int) (i : Nat) : Int := if 0 < lnS sg mt i (stN sg mt i).length then - lnF sg mt i else lnF sg mt i
def lonW (sg mt : List Int) (i k : Nat) : List Int := lnL sg mt i (stN sg mt i).length ++ List.replicate k (lnT sg mt i)
def lonL (sg mt : List Int) (i : Nat) : List Int := redL (lonW sg mt i (lnS sg mt i (stN sg mt i).length).natAbs)
theorem lonW_succ (sg mt : List Int) (i k : Nat) : lonW sg mt i (k + 1) = lonW sg mt i k ++ [lnT sg mt i] := by
  unfold lonW
  rw [List.replicate_succ', List.append_assoc]
theorem lonW_zero (sg mt : List Int) (i : Nat) : lonW sg mt i 0 = lnL sg mt i (stN sg mt i).length := by simp [lonW]

section
variable {sg mt : List Int} {L : Int} (hd : IsD sg mt L) {i : Nat} (hi : i < (strandsL sg mt).length)
include hd hi
theorem st_pos : 0 < (stN sg mt i).length := by
  have hP := nxS_perm hd.2.2.2.2.2.1 hd.2.1
  rw [← hd_len] at hi
  obtain ⟨a1, -, -⟩ := hd_mem hi
  rw [stN_hd hi, cyc_length]
  exact (per_spec hP a1).1
theorem st_lt {j : Nat} (hj : j < (stN sg mt i).length) : gN (stN sg mt i) j < mt.length ∧ outB sg (gN (stN sg mt i) j) = true := by
  refine stN_out hd hi ?_
  rw [gN_lt hj]; exact List.getElem_mem hj
theorem st_next {j : Nat} (hj : j < (stN sg mt i).length) : gN (stN sg mt i) ((j + 1) % (stN sg mt i).length) = nxS mt (gN (stN sg mt i) j) := by
  have hP := nxS_perm hd.2.2.2.2.2.1 hd.2.1
  have hi' := hi
  rw [← hd_len] at hi'
  obtain ⟨a1, -, -⟩ := hd_mem hi'
  have e := stN_hd hi'
  obtain ⟨p0, p1, p2, p3⟩ := per_spec hP a1
  have hl : (stN sg mt i).length = per (nxS mt) mt.length (hdL sg mt)[i] := by rw [e, cyc_length]
  have hg : ∀ k, k < (stN sg mt i).length → gN (stN sg mt i) k = it (nxS mt) k (hdL sg mt)[i] := by
    intro k hk
    rw [gN_lt hk]
    simp [e, cyc]
  rw [hg _ (Nat.mod_lt _ (by omega)), hg j hj]
  show _ = it (nxS mt) (j + 1) _
  rw [hl]
  exact (it_mod hP a1 _).symm
theorem m_lt {j : Nat} (hj : j < (stN sg mt i).length) : mN sg mt i j < mt.length := (hd.2.2.2.2.2.1.gn (st_lt hd hi hj).1).2.1
/-- the step in the program's words -/
theorem next_m {j : Nat} (hj : j < (stN sg mt i).length) {h : Nat} (e : gN (stN sg mt i) ((j + 1) % (stN sg mt i).length) = h) :
    (h % 4 = 2 ↔ mN sg mt i j % 4 = 0) ∧ (h % 4 = 2 → h / 4 = mN sg mt i j / 4 ∧ h - 1 = mN sg mt i j + 1) := by
  rw [st_next hd hi hj] at e
  have e : turnN (mN sg mt i j) 2 = h := e
  unfold turnN at e
  constructor <;> omega
omit hd hi in
theorem lnL_len : ∀ j, (lnL sg mt i j).length ≤ j := by
  intro j
  induction j with
  | zero => simp [lnL]
  | succ j ih =>
    show (if _ then _ else _ : List Int).length ≤ _
    split
    · rw [List.length_append]; simp; omega
    · omega
theorem lnS_bd : ∀ j, j ≤ (stN sg mt i).length → -(j : Int) ≤ lnS sg mt i j ∧ lnS sg mt i j ≤ j := by
  intro j
  induction j with
  | zero => intro _; simp [lnS]
  | succ j ih =>
    intro hj
    have h1 := ih (by omega)
    have hm := m_lt hd hi (show j < _ by omega)
    have hs := hd.2.2.2.2.1 (mN sg mt i j / 4) (by have := hd.2.1; omega)
    rw [lnS_succ]
    clear ih
    split
    · split <;> omega
    · omega
theorem ln_mem : ∀ j, j ≤ (stN sg mt i).length → ∀ x ∈ lnL sg mt i j, ∃ a, a < arC sg mt ∧ (x = (a : Int) + 1 ∨ x = -((a : Int) + 1)) := by
  intro j
  induction j with
  | zero => intro _ x hx; cases hx
  | succ j ih =>
    intro hj x hx
    have hx : x ∈ (if mN sg mt i j % 4 = 0 then lnL sg mt i j ++ [gi sg (mN sg mt i j / 4) * ((arN sg mt (mN sg mt i j + 1) : Int) + 1)] else lnL sg mt i j) := hx
    have hm := m_lt hd hi (show j < _ by omega)
    split at hx
    · rename_i h0
      rcases List.mem_append.1 hx with h | h
      · exact ih (by omega) x h
      · rw [List.mem_singleton] at h
        have ha := arN_lt (sg := sg) hd.2.2.2.2.2.1 hd.2.1 (show mN sg mt i j + 1 < mt.length by have := hd.2.1; omega)
        refine ⟨_, ha, ?_⟩
        rcases hd.2.2.2.2.1 (mN sg mt i j / 4) (by have := hd.2.1; omega) with e | e
        · rw [e] at h; exact .inl (by omega)
        · rw [e] at h; exact .inr (by omega)
    · exact ih (by omega) x hx
theorem lonW_mem {k : Nat} : ∀ x ∈ lonW sg mt i k, ∃ a, a < arC sg mt ∧ (x = (a : Int) + 1 ∨ x = -((a : Int) + 1)) := by
  intro x hx
  unfold lonW at hx
  rcases List.mem_append.1 hx with h | h
  · exact ln_mem hd hi _ (Nat.le_refl _) x h
  · obtain ⟨-, rfl⟩ := List.mem_replicate.1 h
    have h0 := (st_lt hd hi (st_pos hd hi)).1
    refine ⟨_, arN_lt (sg := sg) hd.2.2.2.2.2.1 hd.2.1 h0, ?_⟩
    unfold lnT lnF
    split
    · exact .inr rfl
    · exact .inl rfl
theorem lonW_bd {k : Nat} : Bd (lonW sg mt i k) := by
  intro j hj
  have hc : arC sg mt ≤ 256 := by
    have h1 := cnt_le (headB (arR sg mt)) mt.length
    have h2 := hd.1
    have h3 := hd.2.1
    unfold arC; omega
  obtain ⟨a, ha, h⟩ := lonW_mem hd hi _ (List.getElem_mem hj)
  have e : gi (lonW sg mt i k) j = (lonW sg mt i k)[j] := gi_lt hj
  rw [e]; omega
omit hd hi in
theorem lonW_len {k : Nat} : (lonW sg mt i k).length ≤ (stN sg mt i).length + k := by
  have h1 := lnL_len (sg := sg) (mt := mt) (i := i) (stN sg mt i).length
  unfold lonW
  rw [List.length_append, List.length_replicate]; omega
/-- own arcs are those of the component -/
theorem own_cmp (l : Nat) {x : Nat} (hx : x < mt.length) : ownB sg mt i (stN sg mt i).length (arN sg mt x) = true ↔ gi (cmpL sg mt l) (arN sg mt x) = (i : Int) := by
  obtain ⟨j, hj, hxj⟩ := on_strand hd hx
  rw [cmp_at hd l hx hj hxj]
  unfold ownB
  rw [List.take_length, List.any_eq_true]
  constructor
  · rintro ⟨h, h1, h2⟩
    have := arc_stN hd hx hj hxj hi h1 (of_decide_eq_true h2)
    omega
  · intro e
    obtain rfl : j = i := by omega
    refine ⟨_, hxj, decide_eq_true ?_⟩
    exact ((arN_iff hd hx (oh_lt hd hx)).2 (arc_oh hd hx)).symm
end
end Go.Proofs.Ytcjgfncbecbhjaa

