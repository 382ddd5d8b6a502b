/-
  A fresh row of fresh rows of integers: what a result of type [][]int is.
-/
import Derived.Test.YteanhbldhaiekaaBase
namespace Go.Proofs.Yteanhbldhaiekaa
open Go.RowKit

theorem row_info : (Try.prog.info? 33).map (fun i => (i.zero, i.size, i.bytes)) = some (some (.slice none 0 0), 1, 24) := by kernel_rfl

/-- two fresh rows of different element types share no block -/
theorem OR.apart {α β : Type} {e e' : TypeId} {f : α → Value} {f' : β → Value} {w : World} {B B' : Nat} {v v' : Value} {xs : List α} {ys : List β} (h : OR e f w B v xs) (h' : OR e' f' w B' v' ys) (hne : e ≠ e') {g : Nat}
    (hg : v.ownBlock = some g) : v'.ownBlock ≠ some g := by
  intro hg'
  rcases h.2 with ⟨rfl, _⟩ | ⟨k, c, cur, rfl, _, hh, _⟩
  · simp [Value.ownBlock] at hg
  rcases h'.2 with ⟨rfl, _⟩ | ⟨k', c', cur', rfl, _, hh', _⟩
  · simp [Value.ownBlock] at hg'
  simp [Value.ownBlock] at hg hg'
  subst hg
  subst hg'
  rw [hh] at hh'
  injection hh' with hh'
  injection hh' with _ ht
  exact hne ht

/-- 'v' is a fresh row (its blocks from N on, none of F) of element type eo, of fresh rows 'vs' of integers -/
def RRv (eo : TypeId) (w : World) (N : Nat) (F : Nat → Prop) (v : Value) (vs : List Value) (xss : List (List Int)) : Prop :=
  OR eo id w N v vs ∧ (∀ g, v.ownBlock = some g → ¬ F g) ∧ vs.length = xss.length ∧
    ∀ k (h : k < vs.length), OI w N vs[k] (xss.getD k []) ∧ ∀ g, vs[k].ownBlock = some g → ¬ F g
def RR (eo : TypeId) (w : World) (N : Nat) (F : Nat → Prop) (v : Value) (xss : List (List Int)) : Prop := ∃ vs : List Value, RRv eo w N F v vs xss

section
variable {eo : TypeId} {w w' : World} {N : Nat} {F : Nat → Prop} {v : Value} {xss : List (List Int)}
theorem RR.nil (w : World) (N : Nat) (F : Nat → Prop) : RR eo w N F (.slice none 0 0) [] :=
  ⟨[], OR.nil _ _, by simp [Value.ownBlock], rfl, by simp⟩
theorem RR.keep (h : RR eo w N F v xss) (hk : ∀ b, N ≤ b → b < w.heap.size → ¬ F b → w'.heap[b]? = w.heap[b]?) : RR eo w' N F v xss := by
  obtain ⟨vs, h1, h2, h3, h4⟩ := h
  refine ⟨vs, h1.keep fun g hg => ?_, h2, h3, fun k hkl => ⟨(h4 k hkl).1.keep fun g hg => ?_, (h4 k hkl).2⟩⟩
  · have := h1.lt g hg
    exact hk g this.1 this.2 (h2 g hg)
  · have := (h4 k hkl).1.lt g hg
    exact hk g this.1 this.2 ((h4 k hkl).2 g hg)
theorem RR.imp {F' : Nat → Prop} (h : RR eo w N F v xss) (hF : ∀ b, N ≤ b → b < w.heap.size → F' b → F b) : RR eo w N F' v xss := by
  obtain ⟨vs, h1, h2, h3, h4⟩ := h
  refine ⟨vs, h1, fun g hg hF' => ?_, h3, fun k hkl => ⟨(h4 k hkl).1, fun g hg hF' => ?_⟩⟩
  · have := h1.lt g hg
    exact h2 g hg (hF g this.1 this.2 hF')
  · have := (h4 k hkl).1.lt g hg
    exact (h4 k hkl).2 g hg (hF g this.1 this.2 hF')
theorem RR.mono {N' : Nat} (h : RR eo w N F v xss) (hN : N' ≤ N) : RR eo w N' F v xss := by
  obtain ⟨vs, h1, h2, h3, h4⟩ := h
  exact ⟨vs, h1.mono hN, h2, h3, fun k hkl => ⟨(h4 k hkl).1.mono hN, (h4 k hkl).2⟩⟩
theorem RR.below {C : Nat} (h : RR eo w N F v xss) (hb : Below C w w') (hC : w.heap.size ≤ C) : RR eo w' N F v xss :=
  h.keep fun b _ h2 _ => hb.block b (by omega)
theorem RR.shape (h : RR eo w N F v xss) : ∃ A c, v = .slice A xss.length c ∧ xss.length ≤ c ∧ c ≤ maxLen ∧ (xss ≠ [] → ∃ g, A = some ⟨g, 0, none⟩) := by
  obtain ⟨vs, h1, h2, h3, h4⟩ := h
  obtain ⟨A, c, e, ha, hb, hc⟩ := h1.shape
  rw [h3] at e ha
  refine ⟨A, c, e, ha, hb, fun hne => hc (by intro e0; subst e0; exact hne (List.eq_nil_of_length_eq_zero h3.symm))⟩
theorem RR.at_ (h : RR eo w N F v xss) {k : Nat} (hk : k < xss.length) : ∃ g c A c', v = .slice (some ⟨g, 0, none⟩) xss.length c ∧ N ≤ g ∧ g < w.heap.size ∧
    w.cell? ⟨g, k, none⟩ = some (.slice A (xss.getD k []).length c') ∧ RI w (fun b => N ≤ b ∧ b < w.heap.size) A (xss.getD k []) ∧ (xss.getD k []).length ≤ maxLen := by
  obtain ⟨vs, h1, h2, h3, h4⟩ := h
  obtain ⟨g, c, e, hg1, hg2, _, _, hcell, _⟩ := h1.block (by omega)
  have h5 := (h4 k (by omega)).1
  obtain ⟨A, c', e', hl1, hl2, hr⟩ := h5.reads
  refine ⟨g, c, A, c', by rw [e, h3], hg1, hg2, ?_, hr, h5.len⟩
  rw [hcell k (by omega), id, e']

theorem RRv.push {u v' : Value} {x : List Int} {vs : List Value} (heo : eo ≠ 3) (h : RRv eo w N F v vs xss) (hu : OI w N u x) (huF : ∀ g, u.ownBlock = some g → ¬ F g) (hF : ∀ b, F b → b < w.heap.size)
    (hrow : OR eo id w' N v' (vs ++ [u])) (hg : (w.alloc (.cells #[u] eo)).grownBy w' v.ownBlock) (hv : v'.ownBlock = v.ownBlock ∨ v'.ownBlock = some (w.heap.size + 1)) :
    RRv eo w' N F v' (vs ++ [u]) (xss ++ [x]) := by
  obtain ⟨h1, h2, h3, h4⟩ := h
  have keep : ∀ {y : Value} {z : List Int}, OI w N y z → OI w' N y z := fun {y z} hy => hy.keep fun g hgy => by
    have hlt := (hy.lt g hgy).2
    have hne := OR.apart hy h1 (fun e => heo e.symm) hgy
    rw [hg.block g (by simp; omega) (fun e => hne e.symm), Below.heap_alloc w _ g hlt]
  refine ⟨hrow, fun g hgv => ?_, by simp [h3], fun k hk => ?_⟩
  · rcases hv with e | e
    · exact h2 g (by rw [← e]; exact hgv)
    · rw [e] at hgv
      injection hgv with hgv
      subst hgv
      intro hf
      have := hF _ hf
      omega
  · rcases Nat.lt_or_ge k vs.length with hlt | hge
    · have := h4 k hlt
      rw [List.getElem_append_left hlt]
      refine ⟨?_, this.2⟩
      have e : (xss ++ [x]).getD k [] = xss.getD k [] := by
        rw [List.getD_eq_getElem?_getD, List.getD_eq_getElem?_getD, List.getElem?_append_left (by omega)]
      rw [e]
      exact keep this.1
    · have hk' : k = vs.length := by simp at hk; omega
      subst hk'
      have e : (xss ++ [x]).getD vs.length [] = x := by simp [h3]
      rw [e]
      have e2 : (vs ++ [u])[vs.length] = u := by simp
      rw [e2]
      exact ⟨keep hu, huF⟩
end

end Go.Proofs.Yteanhbldhaiekaa

