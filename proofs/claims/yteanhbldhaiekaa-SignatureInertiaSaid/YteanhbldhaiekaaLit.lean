/-
  Matrices that were just written down: two rows, three rows.
-/
import Derived.Test.YteanhbldhaiekaaDR
namespace Go.Proofs.Yteanhbldhaiekaa
open Go.RowKit

theorem below_drewN {B : Nat} {w w' : World} (h : Below B w w') (n : Nat) : Below B w (w'.drewN n) := ⟨h.os, h.tape, h.output, h.size, h.block⟩
theorem lit_RI (w : World) (xs : List Int) (S : Nat → Prop) (hS : S w.heap.size) (cs : Array Value) (hcs : cs = (xs.map (Value.int .i64)).toArray) : RI (w.alloc (.cells cs 3)) S (some ⟨w.heap.size, 0, none⟩) xs := fun _ => by
  subst hcs
  refine ⟨w.heap.size, 0, rfl, hS, fun k hk => ?_⟩
  rw [cell_of_row _ _ _ _ _ _ (heap_alloc_new w _), Nat.zero_add]
  have := map_gi hk
  simpa using this
theorem RI.alloc {w : World} {S : Nat → Prop} {A : Option Addr} {xs : List Int} (h : RI w S A xs) (hS : ∀ b, S b → b < w.heap.size) (o : Obj) : RI (w.alloc o) S A xs := h.keep fun b hb => Below.heap_alloc w o b (hS b hb)
theorem gi_rg {r : List Int} (h : ∀ x ∈ r, -9223372036854775808 ≤ x ∧ x ≤ 9223372036854775807) (j : Nat) : -9223372036854775808 ≤ gi r j ∧ gi r j ≤ 9223372036854775807 := by
  by_cases hj : j < r.length
  · rw [gi_lt hj]; exact h _ (List.getElem_mem _)
  · unfold gi
    rw [List.getD_eq_getElem?_getD, List.getElem?_eq_none (by omega)]
    exact ⟨by decide, by decide⟩
/-- rows of which each reads -/
theorem AM.mk_rows {w : World} {g : Nat} {xss : List (List Int)} (hg : g < w.heap.size) (hl : xss.length ≤ maxLen)
    (h : ∀ k, k < xss.length → (∃ Ak ck, w.cell? ⟨g, k, none⟩ = some (.slice Ak (xss.getD k []).length ck) ∧ RI w (· < w.heap.size) Ak (xss.getD k []) ∧ (xss.getD k []).length ≤ maxLen) ∧ ∀ j, -9223372036854775808 ≤ eI xss k j ∧ eI xss k j ≤ 9223372036854775807) :
    AM w (some ⟨g, 0, none⟩) xss.length xss :=
  ⟨fun _ => ⟨g, 0, rfl, hg, fun k hk => by rw [Nat.zero_add]; exact (h k hk).1⟩, rfl, hl, fun i j hi _ => (h i hi).2 j⟩
section
variable (w : World) (r0 r1 r2 : List Int) (c0 c1 c2 : Array Value) (h0 : c0 = (r0.map (Value.int .i64)).toArray) (h1 : c1 = (r1.map (Value.int .i64)).toArray) (h2 : c2 = (r2.map (Value.int .i64)).toArray)
  (l0 : r0.length ≤ maxLen) (l1 : r1.length ≤ maxLen) (l2 : r2.length ≤ maxLen)
  (b0 : ∀ x ∈ r0, -9223372036854775808 ≤ x ∧ x ≤ 9223372036854775807) (b1 : ∀ x ∈ r1, -9223372036854775808 ≤ x ∧ x ≤ 9223372036854775807) (b2 : ∀ x ∈ r2, -9223372036854775808 ≤ x ∧ x ≤ 9223372036854775807)
include h0 h1 l0 l1 b0 b1 in
theorem AM.lit2 : AM (((w.alloc (.cells c0 3)).alloc (.cells c1 3)).alloc (.cells #[.slice (some ⟨w.heap.size, 0, none⟩) r0.length r0.length, .slice (some ⟨w.heap.size + 1, 0, none⟩) r1.length r1.length] 33)) (some ⟨w.heap.size + 1 + 1, 0, none⟩) 2 [r0, r1] := by
  obtain ⟨W, hW⟩ : ∃ W, (w.alloc (.cells c0 3)).alloc (.cells c1 3) = W := ⟨_, rfl⟩
  have hs : W.heap.size = w.heap.size + 1 + 1 := by rw [← hW]; simp
  have e0 : RI W (· < W.heap.size) (some ⟨w.heap.size, 0, none⟩) r0 := by
    rw [← hW]
    exact ((lit_RI w r0 (· < w.heap.size + 1) (by omega) c0 h0).alloc (fun b hb => by simpa using hb) _).imp fun b hb => by simp; omega
  have e1 : RI W (· < W.heap.size) (some ⟨w.heap.size + 1, 0, none⟩) r1 := by
    rw [← hW]
    have := lit_RI (w.alloc (.cells c0 3)) r1 (· < w.heap.size + 1 + 1) (by simp) c1 h1
    simpa using this
  rw [hW, ← hs]
  have hn : ∀ k v, (#[Value.slice (some ⟨w.heap.size, 0, none⟩) r0.length r0.length, .slice (some ⟨w.heap.size + 1, 0, none⟩) r1.length r1.length] : Array Value)[k]? = some v → (W.alloc (.cells #[.slice (some ⟨w.heap.size, 0, none⟩) r0.length r0.length, .slice (some ⟨w.heap.size + 1, 0, none⟩) r1.length r1.length] 33)).cell? ⟨W.heap.size, k, none⟩ = some v := fun k v h => by
    rw [cell_of_row _ _ _ _ _ _ (heap_alloc_new W _)]; exact h
  refine AM.mk_rows (xss := [r0, r1]) (by simp) (by unfold maxLen; simp) fun k hk => ?_
  have hk' : k = 0 ∨ k = 1 := by simp at hk; omega
  rcases hk' with rfl | rfl
  · exact ⟨⟨_, _, hn 0 _ rfl, (e0.alloc (fun _ h => h) _).imp fun b hb => by simp; omega, l0⟩, gi_rg b0⟩
  · exact ⟨⟨_, _, hn 1 _ rfl, (e1.alloc (fun _ h => h) _).imp fun b hb => by simp; omega, l1⟩, gi_rg b1⟩
include h0 h1 h2 l0 l1 l2 b0 b1 b2 in
theorem AM.lit3 : AM ((((w.alloc (.cells c0 3)).alloc (.cells c1 3)).alloc (.cells c2 3)).alloc (.cells #[.slice (some ⟨w.heap.size, 0, none⟩) r0.length r0.length, .slice (some ⟨w.heap.size + 1, 0, none⟩) r1.length r1.length, .slice (some ⟨w.heap.size + 1 + 1, 0, none⟩) r2.length r2.length] 33)) (some ⟨w.heap.size + 1 + 1 + 1, 0, none⟩) 3 [r0, r1, r2] := by
  obtain ⟨W, hW⟩ : ∃ W, ((w.alloc (.cells c0 3)).alloc (.cells c1 3)).alloc (.cells c2 3) = W := ⟨_, rfl⟩
  have hs : W.heap.size = w.heap.size + 1 + 1 + 1 := by rw [← hW]; simp
  have e0 : RI W (· < W.heap.size) (some ⟨w.heap.size, 0, none⟩) r0 := by
    rw [← hW]
    exact (((lit_RI w r0 (· < w.heap.size + 1) (by omega) c0 h0).alloc (fun b hb => by simpa using hb) _).alloc (fun b hb => by simp; omega) _).imp fun b hb => by simp; omega
  have e1 : RI W (· < W.heap.size) (some ⟨w.heap.size + 1, 0, none⟩) r1 := by
    rw [← hW]
    have := (lit_RI (w.alloc (.cells c0 3)) r1 (· < w.heap.size + 1 + 1) (by simp) c1 h1).alloc (fun b hb => by simp; omega) (.cells c2 3)
    have := this.imp (T := (· < w.heap.size + 1 + 1 + 1)) fun b hb => by omega
    simpa using this
  have e2 : RI W (· < W.heap.size) (some ⟨w.heap.size + 1 + 1, 0, none⟩) r2 := by
    rw [← hW]
    have := lit_RI ((w.alloc (.cells c0 3)).alloc (.cells c1 3)) r2 (· < w.heap.size + 1 + 1 + 1) (by simp) c2 h2
    simpa using this
  rw [hW, ← hs]
  have hn : ∀ k v, (#[Value.slice (some ⟨w.heap.size, 0, none⟩) r0.length r0.length, .slice (some ⟨w.heap.size + 1, 0, none⟩) r1.length r1.length, .slice (some ⟨w.heap.size + 1 + 1, 0, none⟩) r2.length r2.length] : Array Value)[k]? = some v → (W.alloc (.cells #[.slice (some ⟨w.heap.size, 0, none⟩) r0.length r0.length, .slice (some ⟨w.heap.size + 1, 0, none⟩) r1.length r1.length, .slice (some ⟨w.heap.size + 1 + 1, 0, none⟩) r2.length r2.length] 33)).cell? ⟨W.heap.size, k, none⟩ = some v := fun k v h => by
    rw [cell_of_row _ _ _ _ _ _ (heap_alloc_new W _)]; exact h
  refine AM.mk_rows (xss := [r0, r1, r2]) (by simp) (by unfold maxLen; simp) fun k hk => ?_
  have hk' : k = 0 ∨ k = 1 ∨ k = 2 := by simp at hk; omega
  rcases hk' with rfl | rfl | rfl
  · exact ⟨⟨_, _, hn 0 _ rfl, (e0.alloc (fun _ h => h) _).imp fun b hb => by simp; omega, l0⟩, gi_rg b0⟩
  · exact ⟨⟨_, _, hn 1 _ rfl, (e1.alloc (fun _ h => h) _).imp fun b hb => by simp; omega, l1⟩, gi_rg b1⟩
  · exact ⟨⟨_, _, hn 2 _ rfl, (e2.alloc (fun _ h => h) _).imp fun b hb => by simp; omega, l2⟩, gi_rg b2⟩
end
end Go.Proofs.Yteanhbldhaiekaa

