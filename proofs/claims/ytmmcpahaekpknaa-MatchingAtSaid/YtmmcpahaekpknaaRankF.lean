/-
  The contract of matching.Rank.
-/
import Derived.Test.YtmmcpahaekpknaaRank
import Derived.Test.YtmmcpahaekpknaaPair
import Derived.Laws.EntriesVeiled
namespace Go.Proofs.Ytmmcpahaekpknaa
open Go.RowKit

set_option maxHeartbeats 1000000 in
theorem rank_no (A : Option Addr) (c : Nat) (xs : List Int) (w : World) (hx : RI w (· < w.heap.size) A xs) (hm : xs.length ≤ maxLen) (h : ¬ IsM xs) :
    Calls Try.prog 24 #[.slice A xs.length c] w fun e w' => e = .returned (.tuple #[.int .i64 0, .int .i64 1]) ∧ Below w.heap.size w w' := by
  have H1 := Lib.hid h
  clear h
  go_enter Try.func24, Try.ntmps24
  go_wp2_with fail
  refine (valid_no (· < w.heap.size) (hx.keep fun b hb => Below.heap_alloc w _ b hb) (fun b hb => by simp; omega) hm H1.out).mono ?_
  rintro e w1 ⟨rfl, hb1⟩
  go_wp2_with fail
  go_ret2
  exact ⟨rfl, ((Below.refl _ _).alloc (Nat.le_refl _) _).trans (hb1.mono (by simp))⟩

set_option maxHeartbeats 1000000 in
theorem rank_ok (A : Option Addr) (c : Nat) (xs : List Int) (w : World) (hx : RI w (· < w.heap.size) A xs) (h : IsM xs) :
    Calls Try.prog 24 #[.slice A xs.length c] w fun e w' => e = .returned (.tuple #[.int .i64 (rk xs), .int .i64 0]) ∧ Below w.heap.size w w' := by
  have h48 : xs.length ≤ 48 := h.2.1
  have H1 := Lib.hid h
  clear h
  go_enter Try.func24, Try.ntmps24
  go_wp2_with fail
  refine (valid_yes (· < w.heap.size) (hx.keep fun b hb => Below.heap_alloc w _ b hb) (fun b hb => by simp; omega) H1.out).mono ?_
  rintro e w1 ⟨rfl, hb1⟩
  have hs1 := hb1.size
  simp at hs1
  have hbx : Below w.heap.size w w1 := ((Below.refl _ _).alloc (Nat.le_refl _) _).trans (hb1.mono (by simp))
  have hat1 : w1.heap[w.heap.size]? = some (.cells #[.slice A xs.length c] 34 (0, 0)) := (hb1.block w.heap.size (by simp)).trans (heap_alloc_new w _)
  have hc1 : w1.cell? ⟨w.heap.size, 0, none⟩ = some (.slice A xs.length c) := (hb1.cell (p := ⟨w.heap.size, 0, none⟩) (by simp)).trans (by simp)
  have hcx : ∀ o : Obj, (w1.alloc o).cell? ⟨w.heap.size, 0, none⟩ = some (.slice A xs.length c) := fun o => (World.cell?_alloc_lt w1 o _ (show w.heap.size < w1.heap.size by omega)).trans hc1
  have hne : w1.heap.size ≠ w.heap.size := by omega
  have hne' : w.heap.size ≠ w1.heap.size := by omega
  go_wp2_with fail
  have hst : RkSt (w1.alloc (.cells #[.func (.func 32) #[] #[.pointer (some ⟨w.heap.size, 0, none⟩), .pointer (some ⟨w1.heap.size, 0, none⟩)]] 55)) w.heap.size w1.heap.size A xs c :=
    ⟨(Below.heap_alloc w1 _ _ (by omega)).trans hat1, heap_alloc_new w1 _, ((hx.below hbx).below ((Below.refl _ _).alloc (by omega) _)).imp fun _ _ => trivial⟩
  have hseg : segL xs 0 (2 * (xs.length / 2)) = xs := by rw [show 2 * (xs.length / 2) = xs.length by have := H1.out.1; omega, segL_all]
  have hev := H1.out.1
  refine (rank1_any w.heap.size w1.heap.size A xs c (xs.length / 2 + 1) 0 (xs.length / 2) _ _ _ (by omega) hst rfl (by omega) (by omega) h48 (by rw [hseg]; exact H1.out)).mono ?_
  rintro e w3 ⟨rfl, d, hw3⟩
  rw [hseg]
  have hb3 : Below w.heap.size w w3 := by rw [hw3]; exact below_drewN (hbx.alloc (by omega) _) d
  clear hw3 hst hcx
  go_wp2_with fail
  go_ret2
  exact ⟨rfl, hb3⟩
end Go.Proofs.Ytmmcpahaekpknaa
