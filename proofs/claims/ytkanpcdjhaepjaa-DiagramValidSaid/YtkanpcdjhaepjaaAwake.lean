/-
  The examples of the chapter hold.
-/
import Derived.Test.YtkanpcdjhaepjaaRLists
namespace Go.Proofs.Ytkanpcdjhaepjaa
open Go.RowKit

/-- a literal slice of integers, just made -/
theorem lit_RI (w : World) (xs : List Int) (S : Nat → Prop) (hS : S w.heap.size) (cs : Array Value) (hcs : cs = (xs.map (Value.int .i64)).toArray) : RI (w.alloc (.cells cs 3)) S (some ⟨w.heap.size, 0, none⟩) xs := fun _ => by
  subst hcs
  refine ⟨w.heap.size, 0, rfl, hS, fun k hk => ?_⟩
  rw [cell_of_row _ _ _ _ _ _ (heap_alloc_new w _), Nat.zero_add]
  have := map_gi hk
  simpa using this
theorem RI.alloc {w : World} {S : Nat → Prop} {A : Option Addr} {xs : List Int} (h : RI w S A xs) (hS : ∀ b, S b → b < w.heap.size) (o : Obj) : RI (w.alloc o) S A xs := h.keep fun b hb => Below.heap_alloc w o b (hS b hb)

abbrev sgT : List Int := [1, 1, 1]
abbrev mtT : List Int := [9, 4, 7, 10, 1, 8, 11, 2, 5, 0, 3, 6]
abbrev sgK : List Int := [1]
abbrev mtK : List Int := [1, 0, 3, 2]

theorem isD_T : IsD sgT mtT 0 := by decide +kernel
theorem isD_K : IsD sgK mtK 0 := by decide +kernel
theorem strands_T : rows (strandsL sgT mtT) = [[1, 6, 9, 2, 5, 10]] := by decide +kernel
theorem faces_K : rows (facesL mtK) = [[0], [1, 3], [2]] := by decide +kernel
theorem faces_T : (rows (facesL mtT)).length = 5 ∧ (rows (facesL mtT)).getD 0 [] = [0, 8, 4] ∧ (rows (facesL mtT)).getD 4 [] = [5, 11] := by decide +kernel

/-- two rows behind a box -/
theorem two_rows (w : World) (o : Obj) (xs ys : List Int) (cs ds : Array Value) (hcs : cs = (xs.map (Value.int .i64)).toArray) (hds : ds = (ys.map (Value.int .i64)).toArray) :
    RI (((w.alloc o).alloc (.cells cs 3)).alloc (.cells ds 3)) (· < w.heap.size + 3) (some ⟨w.heap.size + 1, 0, none⟩) xs ∧
    RI (((w.alloc o).alloc (.cells cs 3)).alloc (.cells ds 3)) (· < w.heap.size + 3) (some ⟨w.heap.size + 1 + 1, 0, none⟩) ys ∧
    Below w.heap.size w (((w.alloc o).alloc (.cells cs 3)).alloc (.cells ds 3)) := by
  refine ⟨?_, ?_, ?_⟩
  · have := (lit_RI (w.alloc o) xs (· < w.heap.size + 1 + 1) (by simp) cs hcs).alloc (fun b hb => by simp; omega) (.cells ds 3)
    simpa using this.imp (T := (· < w.heap.size + 3)) fun b hb => by omega
  · have := lit_RI ((w.alloc o).alloc (.cells cs 3)) ys (· < w.heap.size + 3) (by simp) ds hds
    simpa using this
  · exact (((Below.refl _ _).alloc (Nat.le_refl _) _).alloc (by simp) _).alloc (by simp; omega) _

set_option maxHeartbeats 1000000 in
theorem trefoil_any (w : World) : Calls Try.prog 40 #[] w fun e w' => ∃ A1 A2, e = .returned (.agg #[.slice A1 3 3, .slice A2 12 12, .int .i64 0]) ∧
    RI w' (· < w'.heap.size) A1 sgT ∧ RI w' (· < w'.heap.size) A2 mtT ∧ Below w.heap.size w w' := by
  go_enter Try.func40, Try.ntmps40
  go_wp2_with fail
  refine bodyPost_ret (v := .agg #[.slice (some ⟨w.heap.size + 1, 0, none⟩) 3 3, .slice (some ⟨w.heap.size + 1 + 1, 0, none⟩) 12 12, .int .i64 0]) (by simp [results, Try.results40, go_sem]) rfl ⟨_, _, rfl, ?_⟩
  obtain ⟨h1, h2, h3⟩ := two_rows w (.cells #[.slice (some ⟨w.heap.size + 1, 0, none⟩) 3 3, .slice (some ⟨w.heap.size + 1 + 1, 0, none⟩) 12 12, .int .i64 0] 24) sgT mtT _ _ rfl rfl
  exact ⟨h1.imp fun b hb => by simp; omega, h2.imp fun b hb => by simp; omega, h3⟩

set_option maxHeartbeats 1000000 in
theorem kink_any (w : World) : Calls Try.prog 41 #[] w fun e w' => ∃ A1 A2, e = .returned (.agg #[.slice A1 1 1, .slice A2 4 4, .int .i64 0]) ∧
    RI w' (· < w'.heap.size) A1 sgK ∧ RI w' (· < w'.heap.size) A2 mtK ∧ Below w.heap.size w w' := by
  go_enter Try.func41, Try.ntmps41
  go_wp2_with fail
  refine bodyPost_ret (v := .agg #[.slice (some ⟨w.heap.size + 1, 0, none⟩) 1 1, .slice (some ⟨w.heap.size + 1 + 1, 0, none⟩) 4 4, .int .i64 0]) (by simp [results, Try.results41, go_sem]) rfl ⟨_, _, rfl, ?_⟩
  obtain ⟨h1, h2, h3⟩ := two_rows w (.cells #[.slice (some ⟨w.heap.size + 1, 0, none⟩) 1 1, .slice (some ⟨w.heap.size + 1 + 1, 0, none⟩) 4 4, .int .i64 0] 24) sgK mtK _ _ rfl rfl
  exact ⟨h1.imp fun b hb => by simp; omega, h2.imp fun b hb => by simp; omega, h3⟩

/-- the literal of the kink's faces, just made -/
theorem kink_rows (w : World) : RL ((((w.alloc (.cells #[.int .i64 0] 3)).alloc (.cells #[.int .i64 1, .int .i64 3] 3)).alloc (.cells #[.int .i64 2] 3)).alloc
      (.cells #[.slice (some ⟨w.heap.size, 0, none⟩) 1 1, .slice (some ⟨w.heap.size + 1, 0, none⟩) 2 2, .slice (some ⟨w.heap.size + 1 + 1, 0, none⟩) 1 1] 22)) (· < w.heap.size + 4) (some ⟨w.heap.size + 1 + 1 + 1, 0, none⟩) [[0], [1, 3], [2]] ∧
    Below w.heap.size w ((((w.alloc (.cells #[.int .i64 0] 3)).alloc (.cells #[.int .i64 1, .int .i64 3] 3)).alloc (.cells #[.int .i64 2] 3)).alloc
      (.cells #[.slice (some ⟨w.heap.size, 0, none⟩) 1 1, .slice (some ⟨w.heap.size + 1, 0, none⟩) 2 2, .slice (some ⟨w.heap.size + 1 + 1, 0, none⟩) 1 1] 22)) := by
  have h0 := ((lit_RI w [0] (· < w.heap.size + 1) (by omega) #[.int .i64 0] rfl).alloc (fun b hb => by simpa using hb) (.cells #[.int .i64 1, .int .i64 3] 3)).alloc (fun b hb => by simp; omega) (.cells #[.int .i64 2] 3)
  have h1 := (lit_RI (w.alloc (.cells #[.int .i64 0] 3)) [1, 3] (· < w.heap.size + 2) (by simp) #[.int .i64 1, .int .i64 3] rfl).alloc (fun b hb => by simp; omega) (.cells #[.int .i64 2] 3)
  have h2 := lit_RI ((w.alloc (.cells #[.int .i64 0] 3)).alloc (.cells #[.int .i64 1, .int .i64 3] 3)) [2] (· < w.heap.size + 3) (by simp) #[.int .i64 2] rfl
  have e1 : (w.alloc (.cells #[.int .i64 0] 3)).heap.size = w.heap.size + 1 := by simp
  have e2 : ((w.alloc (.cells #[.int .i64 0] 3)).alloc (.cells #[.int .i64 1, .int .i64 3] 3)).heap.size = w.heap.size + 1 + 1 := by simp
  rw [e1] at h1
  rw [e2] at h2
  clear e1 e2
  generalize hW : ((w.alloc (.cells #[.int .i64 0] 3)).alloc (.cells #[.int .i64 1, .int .i64 3] 3)).alloc (.cells #[.int .i64 2] 3) = W at *
  have hs : W.heap.size = w.heap.size + 3 := by rw [← hW]; simp
  have hb : Below w.heap.size w W := by rw [← hW]; exact (((Below.refl _ _).alloc (Nat.le_refl _) _).alloc (by simp) _).alloc (by simp; omega) _
  clear hW
  refine ⟨fun _ => ⟨w.heap.size + 1 + 1 + 1, 0, rfl, by omega, fun k hk => ?_⟩, hb.alloc (by omega) _⟩
  have hnew := heap_alloc_new W (.cells #[.slice (some ⟨w.heap.size, 0, none⟩) 1 1, .slice (some ⟨w.heap.size + 1, 0, none⟩) 2 2, .slice (some ⟨w.heap.size + 1 + 1, 0, none⟩) 1 1] 22)
  rw [hs] at hnew
  have h3 : k = 0 ∨ k = 1 ∨ k = 2 := by simp at hk; omega
  rcases h3 with rfl | rfl | rfl
  · exact ⟨some ⟨w.heap.size, 0, none⟩, 1, by rw [cell_of_row _ _ _ _ _ _ hnew]; rfl, (h0.alloc (fun b hb => by omega) _).imp fun b hb => by omega, by simp [maxLen]⟩
  · exact ⟨some ⟨w.heap.size + 1, 0, none⟩, 2, by rw [cell_of_row _ _ _ _ _ _ hnew]; rfl, (h1.alloc (fun b hb => by omega) _).imp fun b hb => by omega, by simp [maxLen]⟩
  · exact ⟨some ⟨w.heap.size + 1 + 1, 0, none⟩, 1, by rw [cell_of_row _ _ _ _ _ _ hnew]; rfl, (h2.alloc (fun b hb => by omega) _).imp fun b hb => by omega, by simp [maxLen]⟩

theorem lt_step {w w' : World} (h : Below w.heap.size w w') : w.heap.size ≤ w'.heap.size := h.size

set_option maxHeartbeats 4000000 in
theorem awake_any (w : World) : Calls Try.prog 11 #[] w fun e w' => e = .returned (.bool true) ∧ Below w.heap.size w w' := by
  obtain ⟨ft1, ft2, ft3⟩ := faces_T
  have FT1 := Lib.hid ft1
  have FT2 := Lib.hid ft2
  have FT3 := Lib.hid ft3
  clear ft1 ft2 ft3
  go_enter Try.func11, Try.ntmps11
  go_wp2_with fail
  refine (trefoil_any _).mono ?_
  rintro e w1 ⟨A1, A2, rfl, r1, r2, hb1⟩
  go_wp2_with fail
  refine (faces_ok A1 A2 3 12 sgT mtT 0 w1 (· < w1.heap.size) r1 r2 (fun _ h => h) isD_T).mono ?_
  rintro e w2 ⟨v, rfl, hr, hb2⟩
  obtain ⟨Af, cf, rfl, hrl⟩ := hr.reads
  rw [FT1.out]
  have RF2 := Lib.hid (hrl.imp (T := (· < w2.heap.size)) fun b hb => hb.2)
  have HB2 := Lib.hid (hb1.trans (hb2.mono hb1.size))
  clear r1 r2 hr hrl hb1 hb2
  go_wp2_with fail
  refine (trefoil_any _).mono ?_
  rintro e w3 ⟨A1, A2, rfl, r1, r2, hb3⟩
  have RF3 := Lib.hid ((RF2.out.below hb3).imp (T := (· < w3.heap.size)) fun b hb => by have := hb3.size; omega)
  have HB3 := Lib.hid (HB2.out.trans (hb3.mono HB2.out.size))
  clear hb3 RF2 HB2
  go_wp2_with fail
  refine (strands_ok A1 A2 3 12 sgT mtT 0 w3 (· < w3.heap.size) r1 r2 (fun _ h => h) isD_T).mono ?_
  rintro e w4 ⟨v, rfl, hr, hb4⟩
  obtain ⟨As, cs, rfl, hrl⟩ := hr.reads
  have RF4 := Lib.hid ((RF3.out.below hb4).imp (T := (· < w4.heap.size)) fun b hb => by have := hb4.size; omega)
  have RS4 := Lib.hid (hrl.imp (T := (· < w4.heap.size)) fun b hb => hb.2)
  have HB4 := Lib.hid (HB3.out.trans (hb4.mono HB3.out.size))
  rw [strands_T] at RS4 ⊢
  clear r1 r2 hr hrl hb4 RF3 HB3
  go_wp2_with fail
  refine (trefoil_any _).mono ?_
  rintro e w5 ⟨A1, A2, rfl, r1, r2, hb5⟩
  have RF5 := Lib.hid ((RF4.out.below hb5).imp (T := (· < w5.heap.size)) fun b hb => by have := hb5.size; omega)
  have RS5 := Lib.hid ((RS4.out.below hb5).imp (T := (· < w5.heap.size)) fun b hb => by have := hb5.size; omega)
  have HB5 := Lib.hid (HB4.out.trans (hb5.mono HB4.out.size))
  clear hb5 RF4 RS4 HB4
  go_wp2_with fail
  refine (dvalid_is (c1 := 3) (c2 := 12) (sg := sgT) (mt := mtT) (· < w5.heap.size) true r1 r2 (fun _ h => h) (by decide) (by decide) (decide_eq_true isD_T)).mono ?_
  rintro e w6 ⟨rfl, hb6⟩
  have RF6 := Lib.hid ((RF5.out.below hb6).imp (T := (· < w6.heap.size)) fun b hb => by have := hb6.size; omega)
  have RS6 := Lib.hid ((RS5.out.below hb6).imp (T := (· < w6.heap.size)) fun b hb => by have := hb6.size; omega)
  have HB6 := Lib.hid (HB5.out.trans (hb6.mono HB5.out.size))
  clear r1 r2 hb6 RF5 RS5 HB5
  obtain ⟨bf, of, rfl, hbf, hcf⟩ := RF6.out.at_ (k := 0) (by rw [FT1.out]; omega)
  obtain ⟨B0, c0, k0, q0, -⟩ := hcf 0 (by rw [FT1.out]; omega)
  rw [FT2.out] at k0 q0
  have k0' : w6.cell? ⟨bf, of, none⟩ = some (.slice B0 3 c0) := k0
  have Q0 := Lib.hid q0
  have HS6 := HB6.out.size
  clear hcf k0 q0
  go_wp2_with fail
  refine (ints_is (· < w6.heap.size) (fun _ => True) true (xs := [0, 8, 4]) (ys := [0, 8, 4]) (by exact Q0.out.alloc (fun _ h => h) _) (by exact lit_RI w6 [0, 8, 4] _ trivial _ rfl) rfl rfl (by decide) (by decide) (by decide)).mono ?_
  rintro e w7 ⟨rfl, n7, hw7⟩
  have hb7 : Below w6.heap.size w6 w7 := by rw [hw7]; exact below_drewN ((Below.refl _ _).alloc (Nat.le_refl _) _) n7
  have RF7 := Lib.hid ((RF6.out.below hb7).imp (T := (· < w7.heap.size)) fun b hb => by have := hb7.size; omega)
  have RS7 := Lib.hid ((RS6.out.below hb7).imp (T := (· < w7.heap.size)) fun b hb => by have := hb7.size; omega)
  have HB7 := Lib.hid (HB6.out.trans (hb7.mono HB6.out.size))
  clear hw7 hb7 RF6 RS6 HB6 k0' Q0 HS6
  obtain ⟨bf', of', hA, hbf', hcf⟩ := RF7.out.at_ (k := 0) (by rw [FT1.out]; omega)
  injection hA with hA
  injection hA with hA1 hA2
  subst hA1 hA2
  obtain ⟨B4, c4, k4, q4, -⟩ := hcf 4 (by rw [FT1.out]; omega)
  rw [FT3.out] at k4 q4
  have k4' : w7.cell? ⟨bf, of + 4, none⟩ = some (.slice B4 2 c4) := k4
  have Q4 := Lib.hid q4
  clear hcf k4 q4
  go_wp2_with fail
  refine (ints_is (· < w7.heap.size) (fun _ => True) true (xs := [5, 11]) (ys := [5, 11]) (by exact Q4.out.alloc (fun _ h => h) _) (by exact lit_RI w7 [5, 11] _ trivial _ rfl) rfl rfl (by decide) (by decide) (by decide)).mono ?_
  rintro e w8 ⟨rfl, n8, hw8⟩
  have hb8 : Below w7.heap.size w7 w8 := by rw [hw8]; exact below_drewN ((Below.refl _ _).alloc (Nat.le_refl _) _) n8
  have RS8 := Lib.hid ((RS7.out.below hb8).imp (T := (· < w8.heap.size)) fun b hb => by have := hb8.size; omega)
  have HB8 := Lib.hid (HB7.out.trans (hb8.mono HB7.out.size))
  clear hw8 hb8 RF7 RS7 HB7 k4' Q4
  obtain ⟨bs, os, rfl, hbs, hcs⟩ := RS8.out.at_ (k := 0) (by decide)
  obtain ⟨B5, c5, k5, q5, -⟩ := hcs 0 (by decide)
  have k5' : w8.cell? ⟨bs, os, none⟩ = some (.slice B5 6 c5) := k5
  have Q5 := Lib.hid q5
  clear hcs k5 q5
  go_wp2_with fail
  refine (ints_is (· < w8.heap.size) (fun _ => True) true (xs := [1, 6, 9, 2, 5, 10]) (ys := [1, 6, 9, 2, 5, 10]) (by exact Q5.out.alloc (fun _ h => h) _) (by exact lit_RI w8 [1, 6, 9, 2, 5, 10] _ trivial _ rfl) rfl rfl (by decide) (by decide) (by decide)).mono ?_
  rintro e w9 ⟨rfl, n9, hw9⟩
  have hb9 : Below w8.heap.size w8 w9 := by rw [hw9]; exact below_drewN ((Below.refl _ _).alloc (Nat.le_refl _) _) n9
  have HB9 := Lib.hid (HB8.out.trans (hb9.mono HB8.out.size))
  clear hw9 hb9 RS8 HB8 k5' Q5
  go_wp2_with fail
  refine (kink_any _).mono ?_
  rintro e w10 ⟨A1, A2, rfl, r1, r2, hb10⟩
  have HB10 := Lib.hid (HB9.out.trans (hb10.mono HB9.out.size))
  clear hb10 HB9
  go_wp2_with fail
  refine (faces_ok A1 A2 1 4 sgK mtK 0 w10 (· < w10.heap.size) r1 r2 (fun _ h => h) isD_K).mono ?_
  rintro e w11 ⟨v, rfl, hr, hb11⟩
  obtain ⟨Ak, ck, rfl, hrl⟩ := hr.reads
  have RK := Lib.hid (hrl.imp (T := (· < w11.heap.size)) fun b hb => hb.2)
  have HB11 := Lib.hid (HB10.out.trans (hb11.mono HB10.out.size))
  rw [faces_K] at RK ⊢
  clear r1 r2 hr hrl hb11 HB10
  go_wp2_with fail
  obtain ⟨hk1, hk2⟩ := kink_rows w11
  refine (rlists_is (· < w11.heap.size + 4) true (xss := [[0], [1, 3], [2]]) (yss := [[0], [1, 3], [2]]) (by exact (RK.out.below hk2).imp fun b hb => by omega) (by exact hk1) rfl rfl (by decide) (by decide)).mono ?_
  rintro e w12 ⟨rfl, n12, hw12⟩
  have hbf : Below w.heap.size w w12 := by rw [hw12]; exact below_drewN (HB11.out.trans (hk2.mono HB11.out.size)) n12
  clear hw12 hk1 hk2
  go_wp2_with fail
  go_ret
  exact ⟨rfl, hbf⟩
end Go.Proofs.Ytkanpcdjhaepjaa
