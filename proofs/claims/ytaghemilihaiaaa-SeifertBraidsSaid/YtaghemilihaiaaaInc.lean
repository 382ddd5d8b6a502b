/-
  Incoherent half-edges: what both sides compute; the row of the faces' numbers; the closure that tells the circle of an edge.
-/
import Derived.Test.YtaghemilihaiaaaRSeif
import Derived.Test.YtaghemilihaiaaaEulerM
namespace Go.Proofs.Ytaghemilihaiaaa
open Go.RowKit

/-- the number of the circle of an edge -/
def ceN (sg mt : List Int) (h : Nat) : Nat := numN (nxC sg mt) mt.length (outB sg) (outEnd sg mt h)
def incB (sg mt : List Int) (h k : Nat) : Bool := decide (k ∈ cyc (nxF mt) mt.length h) && (outB sg h == outB sg k) && decide (ceN sg mt h ≠ ceN sg mt k)
/-- the pairs of h with the half-edges from h + 1 to below k -/
def incR (sg mt : List Int) (h : Nat) : Nat → List (Int × Int)
  | 0 => []
  | k + 1 => incR sg mt h k ++ if h < k ∧ incB sg mt h k = true then [((h : Int), (k : Int))] else []
def incL (sg mt : List Int) : Nat → List (Int × Int)
  | 0 => []
  | h + 1 => incL sg mt h ++ incR sg mt h mt.length
theorem incR_skip (sg mt : List Int) (h : Nat) : ∀ k, k ≤ h + 1 → incR sg mt h k = []
  | 0, _ => rfl
  | k + 1, hk => by unfold incR; rw [incR_skip sg mt h k (by omega), if_neg (by omega)]; rfl
theorem incR_len (sg mt : List Int) (h : Nat) : ∀ k, (incR sg mt h k).length ≤ k
  | 0 => Nat.le_refl _
  | k + 1 => by
    have := incR_len sg mt h k
    unfold incR
    rw [List.length_append]
    split <;> simp <;> omega
theorem incL_len (sg mt : List Int) : ∀ h, (incL sg mt h).length ≤ h * mt.length
  | 0 => by simp [incL]
  | h + 1 => by
    have := incL_len sg mt h
    have h2 := incR_len sg mt h mt.length
    unfold incL
    rw [List.length_append, Nat.succ_mul]
    omega

/-! ### the row of the faces' numbers -/
def FI2 (mt : List Int) (k j : Nat) (p : List Int) : Prop := ∀ x, x < mt.length → (∀ i, i < k → x ∈ fa mt i → gi p x = (i : Int)) ∧ (x ∈ (fa mt k).take j → gi p x = (k : Int))
theorem fi2_start (mt : List Int) (p : List Int) : FI2 mt 0 0 p := fun x _ => ⟨fun i hi => by omega, fun hm => by simp at hm⟩
theorem fi2_next {mt : List Int} {k : Nat} {p : List Int} (h : FI2 mt k (fa mt k).length p) : FI2 mt (k + 1) 0 p := by
  intro x hx
  obtain ⟨h1, h2⟩ := h x hx
  rw [List.take_length] at h2
  refine ⟨fun i hi hm => ?_, fun hm => by simp at hm⟩
  rcases Nat.lt_or_eq_of_le (Nat.le_of_lt_succ hi) with h | h
  · exact h1 i h hm
  · subst h; exact h2 hm
section
variable {mt : List Int} (hP : PermB (nxF mt) mt.length)
include hP
theorem fi2_step {k j : Nat} {p : List Int} (hk : k < (facesL mt).length) (hj : j < (fa mt k).length) (hl : p.length = mt.length) (h : FI2 mt k j p) : FI2 mt k (j + 1) (p.set (fa mt k)[j] (k : Int)) := by
  have hm := List.getElem_mem hj
  have hlt := fa_lt hP hk hm
  intro x hx
  obtain ⟨h1, h2⟩ := h x hx
  rw [gi_set (by omega), List.take_succ_eq_append_getElem hj, List.mem_append, List.mem_singleton]
  by_cases e : x = (fa mt k)[j]
  · rw [if_pos e]
    exact ⟨fun i hi hmi => (fa_apart hP hi hk hmi (e ▸ hm)).elim, fun _ => rfl⟩
  · rw [if_neg e]
    exact ⟨h1, fun hm => h2 (hm.elim id fun h => absurd h e)⟩
theorem fi2_same {p : List Int} (h : FI2 mt (facesL mt).length 0 p) {x y : Nat} (hx : x < mt.length) (hy : y < mt.length) : gi p x = gi p y ↔ y ∈ cyc (nxF mt) mt.length x := by
  obtain ⟨a, a1, a2⟩ := fa_cover hP hx
  obtain ⟨b, b1, b2⟩ := fa_cover hP hy
  rw [(h x hx).1 a a1 a2, (h y hy).1 b b1 b2]
  constructor
  · intro e
    have : a = b := by omega
    subst this
    exact fa_cyc hP a1 a2 b2
  · intro hm
    obtain ⟨r, hr, e⟩ := face_at a1
    have hya : y ∈ fa mt a := by
      rw [fa_eq a1, e] at a2 ⊢
      exact mem_trans hP hr a2 hm
    rcases Nat.lt_trichotomy a b with h1 | h1 | h1
    · exact (fa_apart hP h1 b1 hya b2).elim
    · rw [h1]
    · exact (fa_apart hP h1 a1 b2 hya).elim
end

set_option maxHeartbeats 1000000 in
/-- the closure 'circle' -/
theorem incC {w : World} {bn gp bd h : Nat} {A1 A2 : Option Addr} {c1 c2 : Nat} {sg mt : List Int} {L hi : Int} (hbn : w.cell? ⟨bn, 0, none⟩ = some (.slice (some ⟨gp, 0, none⟩) mt.length mt.length)) (hD : DBox w bd A1 A2 c1 c2 sg mt L)
    (hN : ∀ x, x < mt.length → w.cell? ⟨gp, x, none⟩ = some (.int .i64 (numI (nxC sg mt) mt.length (outB sg) x))) (hd : IsD sg mt L) (hh : h < mt.length) (he : hi = h) (m : Nat) (hm : ceN sg mt h = m) :
    Calls Try.prog 48 #[.int .i64 hi, .pointer (some ⟨bn, 0, none⟩), .pointer (some ⟨bd, 0, none⟩)] w fun e w' => e = .returned (.int .i64 (m : Int)) ∧ ∃ n, w' = w.drewN n := by
  subst he
  obtain ⟨hg1, hg2, -, -⟩ := hd.2.2.2.2.2.1.gn hh
  have k1 := hD.c1
  obtain ⟨b, off, rfl, -, hc⟩ := hD.rm.at_ hh
  have k3 := hc h hh
  rw [hg1] at k3
  have n1 := hN h hh
  have n2 := hN _ hg2
  have hor : (numI (nxC sg mt) mt.length (outB sg) h = (m : Int) ∧ numI (nxC sg mt) mt.length (outB sg) (gn mt h) = -1) ∨ (numI (nxC sg mt) mt.length (outB sg) h = -1 ∧ numI (nxC sg mt) mt.length (outB sg) (gn mt h) = (m : Int)) := by
    rw [← hm]
    unfold numI ceN outEnd
    have := hd.2.2.2.2.2.2.1 h hh
    by_cases ho : outB sg h = true
    · have h2 : ¬ outB sg (gn mt h) = true := by rw [ho] at this; intro h2; rw [h2] at this; exact this rfl
      rw [if_pos ho, if_neg h2, if_pos ho]; exact .inl ⟨rfl, rfl⟩
    · have h2 : outB sg (gn mt h) = true := by
        cases h' : outB sg (gn mt h)
        · rw [h'] at this; exact absurd (by simpa using ho) this
        · rfl
      rw [if_neg ho, if_pos h2, if_neg ho]; exact .inr ⟨rfl, rfl⟩
  obtain ⟨g, hg⟩ : ∃ g, gn mt h = g := ⟨_, rfl⟩
  rw [hg] at n2 k3 hg2 hor
  have M1 : max (m : Int) (-1) = (m : Int) := by omega
  have M2 : max (-1) (m : Int) = (m : Int) := by omega
  rcases hor with ⟨e1, e2⟩ | ⟨e1, e2⟩
  all_goals
    rw [e1] at n1
    rw [e2] at n2
    clear e1 e2 hg hN hc hD hd hm hg1
    go_enter Try.func48, Try.ntmps48
    go_wp2_with fail
    go_quiet (fail)
    go_wp2_with fail
    go_ret
    exact ⟨rfl, _, rfl⟩
end Go.Proofs.Ytaghemilihaiaaa

