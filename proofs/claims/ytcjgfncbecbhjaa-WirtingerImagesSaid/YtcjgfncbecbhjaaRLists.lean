/-
  The contract of the reference's Lists: it tells whether two lists of lists of integers are equal.
-/
import Derived.Test.YtcjgfncbecbhjaaInts
import Derived.Test.YtcjgfncbecbhjaaLists
namespace Go.Proofs.Ytcjgfncbecbhjaa
open Go.RowKit

/-- a slice of slices that reads as a list of lists -/
def RL (w : World) (S : Nat → Prop) (A : Option Addr) (xss : List (List Int)) : Prop :=
  xss ≠ [] → ∃ b off, A = some ⟨b, off, none⟩ ∧ S b ∧ ∀ k, k < xss.length → ∃ Ak ck, w.cell? ⟨b, off + k, none⟩ = some (.slice Ak (xss.getD k []).length ck) ∧ RI w S Ak (xss.getD k []) ∧ (xss.getD k []).length ≤ maxLen
theorem RL.at_ {w : World} {S : Nat → Prop} {A : Option Addr} {xss : List (List Int)} (h : RL w S A xss) {k : Nat} (hk : k < xss.length) :
    ∃ b off, A = some ⟨b, off, none⟩ ∧ S b ∧ ∀ k, k < xss.length → ∃ Ak ck, w.cell? ⟨b, off + k, none⟩ = some (.slice Ak (xss.getD k []).length ck) ∧ RI w S Ak (xss.getD k []) ∧ (xss.getD k []).length ≤ maxLen :=
  h (by intro e; subst e; simp at hk)
theorem RL.keep {w w' : World} {S : Nat → Prop} {A : Option Addr} {xss : List (List Int)} (h : RL w S A xss) (hk : ∀ b, S b → w'.heap[b]? = w.heap[b]?) : RL w' S A xss := fun hne => by
  obtain ⟨b, off, e, hb, hc⟩ := h hne
  refine ⟨b, off, e, hb, fun k hlt => ?_⟩
  obtain ⟨Ak, ck, h1, h2, h3⟩ := hc k hlt
  exact ⟨Ak, ck, (World.cell?_of_block (a := ⟨b, off + k, none⟩) (hk b hb)).trans h1, h2.keep hk, h3⟩
theorem RL.imp {w : World} {S T : Nat → Prop} {A : Option Addr} {xss : List (List Int)} (h : RL w S A xss) (hS : ∀ b, S b → T b) : RL w T A xss := fun hne => by
  obtain ⟨b, off, e, hb, hc⟩ := h hne
  refine ⟨b, off, e, hS b hb, fun k hlt => ?_⟩
  obtain ⟨Ak, ck, h1, h2, h3⟩ := hc k hlt
  exact ⟨Ak, ck, h1, h2.imp hS, h3⟩
theorem RL.below {w w' : World} {B : Nat} {A : Option Addr} {xss : List (List Int)} (h : RL w (· < B) A xss) (hb : Below B w w') : RL w' (· < B) A xss := h.keep fun b hlt => hb.block b hlt
theorem RL.drewN {w : World} {S : Nat → Prop} {A : Option Addr} {xss : List (List Int)} (h : RL w S A xss) (n : Nat) : RL (w.drewN n) S A xss := h
theorem RL.nil (w : World) (S : Nat → Prop) (A : Option Addr) : RL w S A [] := fun h => absurd rfl h
theorem RR.reads {eo : TypeId} {w : World} {N : Nat} {F : Nat → Prop} {v : Value} {xss : List (List Int)} (h : RR eo w N F v xss) : ∃ A c, v = .slice A xss.length c ∧ RL w (fun b => N ≤ b ∧ b < w.heap.size) A xss := by
  obtain ⟨A, c, rfl, -, -, -⟩ := h.shape
  refine ⟨A, c, rfl, fun hne => ?_⟩
  have hpos : 0 < xss.length := by
    rcases Nat.eq_zero_or_pos xss.length with h0 | h0
    · exact absurd (List.eq_nil_of_length_eq_zero h0) hne
    · exact h0
  obtain ⟨g, c0, A0, c0', hv, hg1, hg2, -⟩ := h.at_ hpos
  injection hv with e1 _ _
  refine ⟨g, 0, e1, ⟨hg1, hg2⟩, fun k hk => ?_⟩
  obtain ⟨g', c1, Ak, ck, hv', -, -, h1, h2, h3⟩ := h.at_ hk
  injection hv' with e1' _ _
  rw [e1] at e1'
  injection e1' with e1'
  injection e1' with e1'
  subst e1'
  exact ⟨Ak, ck, by rw [Nat.zero_add]; exact h1, h2, h3⟩

theorem lists_getD {α : Type} {xss yss : List (List α)} (hl : xss.length = yss.length) (h : ∀ k, k < xss.length → xss.getD k [] = yss.getD k []) : xss = yss := by
  apply List.ext_getElem hl
  intro k h1 h2
  have := h k h1
  simpa [h1, h2] using this

end Go.Proofs.Ytcjgfncbecbhjaa

