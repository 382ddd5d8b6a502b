/-
  Seifert circles as cycles of a permutation. No program here.
-/
import Derived.Test.YtaghemilihaiaaaPlane
namespace Go.Proofs.Ytaghemilihaiaaa

/-- the outgoing over half-edge of a crossing -/
def overN (sg : List Int) (c : Nat) : Nat := if gi sg c = 1 then 4 * c + 1 else 4 * c + 3
/-- the next half-edge of the circle, of an outgoing half-edge -/
def nxR (sg mt : List Int) (h : Nat) : Nat := if gn mt h % 4 = 0 then overN sg (gn mt h / 4) else gn mt h / 4 * 4 + 2
/-- .. and the incoming ones stay -/
def nxC (sg mt : List Int) (h : Nat) : Nat := if outB sg h = true then nxR sg mt h else h

theorem outB_slots {sg : List Int} (_hs : SgM sg) {c : Nat} (_hc : c < sg.length) :
    outB sg (4 * c) = false ∧ outB sg (4 * c + 2) = true ∧ (gi sg c = 1 → outB sg (4 * c + 1) = true ∧ outB sg (4 * c + 3) = false) ∧ (gi sg c = -1 → outB sg (4 * c + 1) = false ∧ outB sg (4 * c + 3) = true) := by
  have h0 : outB sg (4 * c) = false := by unfold outB; rw [if_neg (by omega), if_neg (by omega), if_neg (by omega)]
  have h1 : outB sg (4 * c + 1) = (gi sg c == 1) := by unfold outB; rw [if_pos (by omega), show (4 * c + 1) / 4 = c by omega]
  have h2 : outB sg (4 * c + 2) = true := by unfold outB; rw [if_neg (by omega), if_pos (by omega)]
  have h3 : outB sg (4 * c + 3) = (gi sg c == -1) := by unfold outB; rw [if_neg (by omega), if_neg (by omega), if_pos (by omega), show (4 * c + 3) / 4 = c by omega]
  refine ⟨h0, h2, fun e => ?_, fun e => ?_⟩
  · rw [h1, h3, e]; decide
  · rw [h1, h3, e]; decide
theorem over_out {sg : List Int} (hs : SgM sg) {c : Nat} (hc : c < sg.length) : outB sg (overN sg c) = true ∧ overN sg c / 4 = c ∧ (overN sg c = 4 * c + 1 ∨ overN sg c = 4 * c + 3) := by
  obtain ⟨-, -, h1, h2⟩ := outB_slots hs hc
  unfold overN
  rcases hs c hc with e | e
  · rw [if_pos e]; exact ⟨(h1 e).1, by omega, .inl rfl⟩
  · rw [if_neg (by omega)]; exact ⟨(h2 e).2, by omega, .inr rfl⟩

section
variable {sg mt : List Int} {L : Int} (hd : IsD sg mt L)
include hd
theorem nxR_lt {h : Nat} (hh : h < mt.length) : nxR sg mt h < mt.length ∧ outB sg (nxR sg mt h) = true ∧ nxR sg mt h / 4 = gn mt h / 4 := by
  have hg := (hd.2.2.2.2.2.1.gn hh).2.1
  have hn := hd.2.1
  have hc : gn mt h / 4 < sg.length := by omega
  have ho := over_out hd.2.2.2.2.1 hc
  have hs := outB_slots hd.2.2.2.2.1 hc
  unfold nxR
  split
  · exact ⟨by omega, ho.1, ho.2.1⟩
  · refine ⟨by omega, ?_, by omega⟩
    rw [show gn mt h / 4 * 4 + 2 = 4 * (gn mt h / 4) + 2 by omega]
    exact hs.2.1
/-- where an incoming half-edge lies -/
theorem in_slot {m : Nat} (hm : m < mt.length) (hi : outB sg m = false) : m % 4 = 0 ∨ (m % 4 = 3 ∧ gi sg (m / 4) = 1) ∨ (m % 4 = 1 ∧ gi sg (m / 4) = -1) := by
  have hn := hd.2.1
  have hs := hd.2.2.2.2.1 (m / 4) (by omega)
  unfold outB at hi
  have hcase : m % 4 = 0 ∨ m % 4 = 1 ∨ m % 4 = 2 ∨ m % 4 = 3 := by omega
  rcases hcase with e | e | e | e
  · exact .inl e
  · rw [if_pos e] at hi
    rcases hs with e' | e'
    · rw [e'] at hi; cases hi
    · exact .inr (.inr ⟨e, e'⟩)
  · rw [if_neg (by omega), if_pos e] at hi; cases hi
  · rw [if_neg (by omega), if_neg (by omega), if_pos e] at hi
    rcases hs with e' | e'
    · exact .inr (.inl ⟨e, e'⟩)
    · rw [e'] at hi; cases hi
theorem mate_in {h : Nat} (hh : h < mt.length) (ho : outB sg h = true) : outB sg (gn mt h) = false := by
  have := hd.2.2.2.2.2.2.1 h hh
  rw [ho] at this
  cases h' : outB sg (gn mt h)
  · rfl
  · rw [h'] at this; exact absurd rfl this
theorem nxR_inj {a b : Nat} (ha : a < mt.length) (hb : b < mt.length) (oa : outB sg a = true) (ob : outB sg b = true) (e : nxR sg mt a = nxR sg mt b) : a = b := by
  have hI := hd.2.2.2.2.2.1
  have hn := hd.2.1
  have ga := (hI.gn ha).2.1
  have gb := (hI.gn hb).2.1
  have ea := (nxR_lt hd ha).2.2
  have eb := (nxR_lt hd hb).2.2
  have ia := in_slot hd ga (mate_in hd ha oa)
  have ib := in_slot hd gb (mate_in hd hb ob)
  have hc : gn mt a / 4 = gn mt b / 4 := by rw [← ea, ← eb, e]
  have ho := over_out hd.2.2.2.2.1 (c := gn mt a / 4) (by omega)
  have hmm : gn mt a = gn mt b := by
    unfold nxR at e
    rw [← hc] at e ib
    have hov := ho.2.2
    rcases ia with x | ⟨x, x'⟩ | ⟨x, x'⟩ <;> rcases ib with y | ⟨y, y'⟩ | ⟨y, y'⟩
    · omega
    · rw [if_pos x, if_neg (by omega)] at e; omega
    · rw [if_pos x, if_neg (by omega)] at e; omega
    · rw [if_neg (by omega), if_pos y] at e; omega
    · omega
    · omega
    · rw [if_neg (by omega), if_pos y] at e; omega
    · omega
    · omega
  exact gn_inj hI ha hb hmm
theorem nxC_perm : PermB (nxC sg mt) mt.length := by
  refine ⟨fun h hh => ?_, fun a b ha hb e => ?_⟩
  · unfold nxC
    split
    · exact (nxR_lt hd hh).1
    · exact hh
  · unfold nxC at e
    by_cases oa : outB sg a = true <;> by_cases ob : outB sg b = true
    · rw [if_pos oa, if_pos ob] at e
      exact nxR_inj hd ha hb oa ob e
    · rw [if_pos oa, if_neg ob] at e
      rw [← e] at ob
      exact absurd (nxR_lt hd ha).2.1 ob
    · rw [if_neg oa, if_pos ob] at e
      rw [e] at oa
      exact absurd (nxR_lt hd hb).2.1 oa
    · rw [if_neg oa, if_neg ob] at e
      exact e
theorem out_nxC : ∀ h, h < mt.length → outB sg (nxC sg mt h) = outB sg h := by
  intro h hh
  unfold nxC
  split
  · rename_i ho
    rw [(nxR_lt hd hh).2.1, ho]
  · rfl
end
/-- the Seifert circles -/
def circL (sg mt : List Int) : List (List Nat) := cycsL (nxC sg mt) mt.length (outB sg) mt.length
theorem circ_tot {sg mt : List Int} {L : Int} (hd : IsD sg mt L) : tot (circL sg mt) = 2 * sg.length := by
  unfold circL
  rw [tot_all (nxC_perm hd) (out_nxC hd), hd.2.1]
  exact outs_two hd.2.2.2.2.1 _ (Nat.le_refl _)
end Go.Proofs.Ytaghemilihaiaaa

