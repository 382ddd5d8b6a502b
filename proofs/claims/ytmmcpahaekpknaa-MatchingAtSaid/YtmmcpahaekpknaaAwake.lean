/-
  The examples of the chapter hold.
-/
import Derived.Test.YtmmcpahaekpknaaAll
import Derived.Test.YtmmcpahaekpknaaJoin
import Derived.Test.YtmmcpahaekpknaaInts
namespace Go.Proofs.Ytmmcpahaekpknaa
open Go.RowKit

/-- a literal slice of integers, just made -/
theorem lit_RI (w : World) (xs : List Int) (S : Nat → Prop) (hS : S w.heap.size) (cs : Array Value) (hcs : cs = (xs.map (Value.int .i64)).toArray) : RI (w.alloc (.cells cs 3)) S (some ⟨w.heap.size, 0, none⟩) xs := fun _ => by
  subst hcs
  refine ⟨w.heap.size, 0, rfl, hS, fun k hk => ?_⟩
  rw [cell_of_row _ _ _ _ _ _ (heap_alloc_new w _), Nat.zero_add]
  have := map_gi hk
  simpa using this

theorem RI.alloc {w : World} {S : Nat → Prop} {A : Option Addr} {xs : List Int} (h : RI w S A xs) (hS : ∀ b, S b → b < w.heap.size) (o : Obj) : RI (w.alloc o) S A xs := h.keep fun b hb => Below.heap_alloc w o b (hS b hb)
theorem lit_first (w : World) (xs : List Int) (cs : Array Value) (o : Obj) (hcs : cs = (xs.map (Value.int .i64)).toArray) :
    RI ((w.alloc (.cells cs 3)).alloc o) (· < ((w.alloc (.cells cs 3)).alloc o).heap.size) (some ⟨w.heap.size, 0, none⟩) xs :=
  ((lit_RI w xs (· < w.heap.size + 1) (by omega) cs hcs).alloc (fun b hb => by simp; omega) o).imp fun b hb => by simp; omega
theorem lit_second (w : World) (xs : List Int) (cs : Array Value) (o : Obj) (hcs : cs = (xs.map (Value.int .i64)).toArray) :
    RI ((w.alloc o).alloc (.cells cs 3)) (· < ((w.alloc o).alloc (.cells cs 3)).heap.size) (some ⟨w.heap.size + 1, 0, none⟩) xs := by
  have := lit_RI (w.alloc o) xs (· < w.heap.size + 1 + 1) (by simp) cs hcs
  simpa using this

theorem isM_a : IsM [1, 0, 3, 2] := by decide
theorem isM_b : IsM [3, 2, 1, 0] := by decide
theorem join_ab : joinL [1, 0, 3, 2] 1 = [1, 0] := by decide
theorem circ_ab : circ [1, 0, 3, 2] 1 = 0 := by decide
theorem pair_ab : pairN [1, 0, 3, 2] [3, 2, 1, 0] = 1 := by decide
theorem all_two : allN 2 = [[1, 0, 3, 2], [3, 2, 1, 0]] := by decide

set_option maxHeartbeats 2000000 in
theorem awake_any (w : World) : Calls Try.prog 11 #[] w fun e w' => e = .returned (.bool true) ∧ Below w.heap.size w w' := by
  go_enter Try.func11, Try.ntmps11
  go_wp2_with fail
  refine (all_ok 2 w (by omega) (by rw [all_two]; decide)).mono ?_
  rintro e w1 ⟨v, rfl, hrr, hb1⟩
  rw [all_two] at hrr
  obtain ⟨g, c, A0, c0, rfl, hg1, hg2, hc0, hr0, -⟩ := hrr.at_ (k := 0) (by decide)
  obtain ⟨g', c', A1, c1, hv, -, -, hc1, hr1, -⟩ := hrr.at_ (k := 1) (by decide)
  injection hv with h1 h2 h3
  injection h1 with h1
  injection h1 with h1
  subst h1 h3
  clear h2
  have hs1 := hb1.size
  go_wp2_with fail
  refine (join_ok (some ⟨w1.heap.size, 0, none⟩) 4 [1, 0, 3, 2] 1 _ (lit_RI w1 [1, 0, 3, 2] _ (by simp) _ rfl) isM_a (by decide)).mono ?_
  rintro e w2 ⟨u, rfl, hou, hb2⟩
  rw [join_ab] at hou
  obtain ⟨Au, cu, rfl, -, -, hru⟩ := hou.reads
  rw [circ_ab]
  have hs2 := hb2.size
  simp at hs2
  have hs2' : w1.heap.size ≤ w2.heap.size := by omega
  have hb12 : Below w1.heap.size w1 w2 := ((Below.refl _ _).alloc (Nat.le_refl _) _).trans (hb2.mono (by simp))
  go_wp2_with fail
  refine (pair_ok (some ⟨w2.heap.size, 0, none⟩) (some ⟨w2.heap.size + 1, 0, none⟩) 4 4 [1, 0, 3, 2] [3, 2, 1, 0] _ (lit_first w2 _ _ _ rfl) (lit_second w2 _ _ _ rfl) isM_a isM_b (by decide)).mono ?_
  rintro e w3 ⟨rfl, hb3⟩
  rw [pair_ab]
  have hb23 : Below w2.heap.size w2 w3 := (((Below.refl _ _).alloc (Nat.le_refl _) _).alloc (by simp) _).trans (hb3.mono (by simp; omega))
  have hs3 := hb23.size
  have hb13 := hb12.trans (hb23.mono hs2')
  have k0 : w3.cell? ⟨g, 0, none⟩ = some (.slice A0 4 c0) := (hb13.cell (p := ⟨g, 0, none⟩) hg2).trans hc0
  have k1 : w3.cell? ⟨g, 1, none⟩ = some (.slice A1 4 c1) := (hb13.cell (p := ⟨g, 1, none⟩) hg2).trans hc1
  have r0 : RI w3 (· < w3.heap.size) A0 [1, 0, 3, 2] := ((hr0.imp fun b hb => hb.2).below hb13).imp fun b hb => by omega
  have r1 : RI w3 (· < w3.heap.size) A1 [3, 2, 1, 0] := ((hr1.imp fun b hb => hb.2).below hb13).imp fun b hb => by omega
  have r2 : RI w3 (· < w3.heap.size) Au [1, 0] := ((hru.imp fun b hb => hb.2).below hb23).imp fun b hb => by omega
  have hbf : Below w.heap.size w w3 := hb1.trans (hb13.mono hs1)
  clear hc0 hc1 hr0 hr1 hru hb12 hb13 hb23 hb1 hb2 hb3 hrr hou
  go_wp2_with fail
  refine (ints_is (· < w3.heap.size) (fun _ => True) true (xs := [1, 0, 3, 2]) (ys := [1, 0, 3, 2]) (by exact r0.alloc (fun _ h => h) _) (by exact lit_RI w3 [1, 0, 3, 2] _ trivial _ rfl) rfl rfl (by decide) (by decide) (by decide)).mono ?_
  rintro e w4 ⟨rfl, n1, hw4⟩
  have hb34 : Below w3.heap.size w3 w4 := by rw [hw4]; exact below_drewN ((Below.refl _ _).alloc (Nat.le_refl _) _) n1
  have hs4 := hb34.size
  have k1' : w4.cell? ⟨g, 1, none⟩ = some (.slice A1 4 c1) := (hb34.cell (p := ⟨g, 1, none⟩) (by simp; omega)).trans k1
  have q1 : RI w4 (· < w4.heap.size) A1 [3, 2, 1, 0] := (r1.below hb34).imp fun b hb => by omega
  have q2 : RI w4 (· < w4.heap.size) Au [1, 0] := (r2.below hb34).imp fun b hb => by omega
  have hbf4 : Below w.heap.size w w4 := hbf.trans (hb34.mono (by omega))
  clear hw4 hb34 r0 r1 r2 k0 k1 hbf
  go_wp2_with fail
  refine (ints_is (· < w4.heap.size) (fun _ => True) true (xs := [3, 2, 1, 0]) (ys := [3, 2, 1, 0]) (by exact q1.alloc (fun _ h => h) _) (by exact lit_RI w4 [3, 2, 1, 0] _ trivial _ rfl) rfl rfl (by decide) (by decide) (by decide)).mono ?_
  rintro e w5 ⟨rfl, n2, hw5⟩
  have hb45 : Below w4.heap.size w4 w5 := by rw [hw5]; exact below_drewN ((Below.refl _ _).alloc (Nat.le_refl _) _) n2
  have hs5 := hb45.size
  have p2 : RI w5 (· < w5.heap.size) Au [1, 0] := (q2.below hb45).imp fun b hb => by omega
  have hbf5 : Below w.heap.size w w5 := hbf4.trans (hb45.mono (by omega))
  clear hw5 hb45 q1 q2 k1' hbf4
  go_wp2_with fail
  refine (ints_is (· < w5.heap.size) (fun _ => True) true (xs := [1, 0]) (ys := [1, 0]) (by exact p2.alloc (fun _ h => h) _) (by exact lit_RI w5 [1, 0] _ trivial _ rfl) rfl rfl (by decide) (by decide) (by decide)).mono ?_
  rintro e w6 ⟨rfl, n3, hw6⟩
  have hb56 : Below w5.heap.size w5 w6 := by rw [hw6]; exact below_drewN ((Below.refl _ _).alloc (Nat.le_refl _) _) n3
  have hbf6 : Below w.heap.size w w6 := hbf5.trans (hb56.mono (by omega))
  clear hw6 hb56 p2 hbf5
  go_wp2_with fail
  go_ret
  exact ⟨rfl, hbf6⟩

end Go.Proofs.Ytmmcpahaekpknaa
