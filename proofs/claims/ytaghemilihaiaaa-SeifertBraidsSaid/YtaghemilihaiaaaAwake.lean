/-
  The examples of the chapter hold.
-/
import Derived.Test.YtaghemilihaiaaaRLists
namespace Go.Proofs.Ytaghemilihaiaaa
open Go.RowKit

/-- a literal slice of integers, just made -/
theorem lit_RI (w : World) (xs : List Int) (S : Nat → Prop) (hS : S w.heap.size) (cs : Array Value) (hcs : cs = (xs.map (Value.int .i64)).toArray) : RI (w.alloc (.cells cs 3)) S (some ⟨w.heap.size, 0, none⟩) xs := fun _ => by
  subst hcs
  refine ⟨w.heap.size, 0, rfl, hS, fun k hk => ?_⟩
  rw [cell_of_row _ _ _ _ _ _ (heap_alloc_new w _), Nat.zero_add]
  have := map_gi hk
  simpa using this
theorem RI.alloc {w : World} {S : Nat → Prop} {A : Option Addr} {xs : List Int} (h : RI w S A xs) (hS : ∀ b, S b → b < w.heap.size) (o : Obj) : RI (w.alloc o) S A xs := h.keep fun b hb => Below.heap_alloc w o b (hS b hb)

abbrev sgT : List Int := [1, 1, 1]
abbrev mtT : List Int := [9, 4, 7, 10, 1, 8, 11, 2, 5, 0, 3, 6]
abbrev sgK : List Int := [1]
abbrev mtK : List Int := [1, 0, 3, 2]

theorem isD_T : IsD sgT mtT 0 := by decide +kernel
theorem isD_K : IsD sgK mtK 0 := by decide +kernel
theorem strands_T : rows (strandsL sgT mtT) = [[1, 6, 9, 2, 5, 10]] := by decide +kernel
theorem faces_K : rows (facesL mtK) = [[0], [1, 3], [2]] := by decide +kernel
theorem faces_T : (rows (facesL mtT)).length = 5 ∧ (rows (facesL mtT)).getD 0 [] = [0, 8, 4] ∧ (rows (facesL mtT)).getD 4 [] = [5, 11] := by decide +kernel

/-- two rows behind a box -/
theorem two_rows (w : World) (o : Obj) (xs ys : List Int) (cs ds : Array Value) (hcs : cs = (xs.map (Value.int .i64)).toArray) (hds : ds = (ys.map (Value.int .i64)).toArray) :
    RI (((w.alloc o).alloc (.cells cs 3)).alloc (.cells ds 3)) (· < w.heap.size + 3) (some ⟨w.heap.size + 1, 0, none⟩) xs ∧
    RI (((w.alloc o).alloc (.cells cs 3)).alloc (.cells ds 3)) (· < w.heap.size + 3) (some ⟨w.heap.size + 1 + 1, 0, none⟩) ys ∧
    Below w.heap.size w (((w.alloc o).alloc (.cells cs 3)).alloc (.cells ds 3)) := by
  refine ⟨?_, ?_, ?_⟩
  · have := (lit_RI (w.alloc o) xs (· < w.heap.size + 1 + 1) (by simp) cs hcs).alloc (fun b hb => by simp; omega) (.cells ds 3)
    simpa using this.imp (T := (· < w.heap.size + 3)) fun b hb => by omega
  · have := lit_RI ((w.alloc o).alloc (.cells cs 3)) ys (· < w.heap.size + 3) (by simp) ds hds
    simpa using this
  · exact (((Below.refl _ _).alloc (Nat.le_refl _) _).alloc (by simp) _).alloc (by simp; omega) _

/-- the literal of the kink's faces, just made -/
theorem kink_rows (w : World) : RL ((((w.alloc (.cells #[.int .i64 0] 3)).alloc (.cells #[.int .i64 1, .int .i64 3] 3)).alloc (.cells #[.int .i64 2] 3)).alloc
      (.cells #[.slice (some ⟨w.heap.size, 0, none⟩) 1 1, .slice (some ⟨w.heap.size + 1, 0, none⟩) 2 2, .slice (some ⟨w.heap.size + 1 + 1, 0, none⟩) 1 1] 22)) (· < w.heap.size + 4) (some ⟨w.heap.size + 1 + 1 + 1, 0, none⟩) [[0], [1, 3], [2]] ∧
    Below w.heap.size w ((((w.alloc (.cells #[.int .i64 0] 3)).alloc (.cells #[.int .i64 1, .int .i64 3] 3)).alloc (.cells #[.int .i64 2] 3)).alloc
      (.cells #[.slice (some ⟨w.heap.size, 0, none⟩) 1 1, .slice (some ⟨w.heap.size + 1, 0, none⟩) 2 2, .slice (some ⟨w.heap.size + 1 + 1, 0, none⟩) 1 1] 22)) := by
  have h0 := ((lit_RI w [0] (· < w.heap.size + 1) (by omega) #[.int .i64 0] rfl).alloc (fun b hb => by simpa using hb) (.cells #[.int .i64 1, .int .i64 3] 3)).alloc (fun b hb => by simp; omega) (.cells #[.int .i64 2] 3)
  have h1 := (lit_RI (w.alloc (.cells #[.int .i64 0] 3)) [1, 3] (· < w.heap.size + 2) (by simp) #[.int .i64 1, .int .i64 3] rfl).alloc (fun b hb => by simp; omega) (.cells #[.int .i64 2] 3)
  have h2 := lit_RI ((w.alloc (.cells #[.int .i64 0] 3)).alloc (.cells #[.int .i64 1, .int .i64 3] 3)) [2] (· < w.heap.size + 3) (by simp) #[.int .i64 2] rfl
  have e1 : (w.alloc (.cells #[.int .i64 0] 3)).heap.size = w.heap.size + 1 := by simp
  have e2 : ((w.alloc (.cells #[.int .i64 0] 3)).alloc (.cells #[.int .i64 1, .int .i64 3] 3)).heap.size = w.heap.size + 1 + 1 := by simp
  rw [e1] at h1
  rw [e2] at h2
  clear e1 e2
  generalize hW : ((w.alloc (.cells #[.int .i64 0] 3)).alloc (.cells #[.int .i64 1, .int .i64 3] 3)).alloc (.cells #[.int .i64 2] 3) = W at *
  have hs : W.heap.size = w.heap.size + 3 := by rw [← hW]; simp
  have hb : Below w.heap.size w W := by rw [← hW]; exact (((Below.refl _ _).alloc (Nat.le_refl _) _).alloc (by simp) _).alloc (by simp; omega) _
  clear hW
  refine ⟨fun _ => ⟨w.heap.size + 1 + 1 + 1, 0, rfl, by omega, fun k hk => ?_⟩, hb.alloc (by omega) _⟩
  have hnew := heap_alloc_new W (.cells #[.slice (some ⟨w.heap.size, 0, none⟩) 1 1, .slice (some ⟨w.heap.size + 1, 0, none⟩) 2 2, .slice (some ⟨w.heap.size + 1 + 1, 0, none⟩) 1 1] 22)
  rw [hs] at hnew
  have h3 : k = 0 ∨ k = 1 ∨ k = 2 := by simp at hk; omega
  rcases h3 with rfl | rfl | rfl
  · exact ⟨some ⟨w.heap.size, 0, none⟩, 1, by rw [cell_of_row _ _ _ _ _ _ hnew]; rfl, (h0.alloc (fun b hb => by omega) _).imp fun b hb => by omega, by simp [maxLen]⟩
  · exact ⟨some ⟨w.heap.size + 1, 0, none⟩, 2, by rw [cell_of_row _ _ _ _ _ _ hnew]; rfl, (h1.alloc (fun b hb => by omega) _).imp fun b hb => by omega, by simp [maxLen]⟩
  · exact ⟨some ⟨w.heap.size + 1 + 1, 0, none⟩, 1, by rw [cell_of_row _ _ _ _ _ _ hnew]; rfl, (h2.alloc (fun b hb => by omega) _).imp fun b hb => by omega, by simp [maxLen]⟩

theorem lt_step {w w' : World} (h : Below w.heap.size w w') : w.heap.size ≤ w'.heap.size := h.size

end Go.Proofs.Ytaghemilihaiaaa

