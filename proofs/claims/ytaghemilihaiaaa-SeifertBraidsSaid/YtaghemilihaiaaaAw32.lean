/-
  The examples of chapter 32 hold; small tells what it should.
-/
import Derived.Test.YtaghemilihaiaaaSeif
import Derived.Test.YtaghemilihaiaaaRCircW
import Derived.Test.YtaghemilihaiaaaAwake
namespace Go.Proofs.Ytaghemilihaiaaa
open Go.RowKit

/-- a diagram that was written out, in its box -/
theorem box_lit (w : World) (xs ys : List Int) (L : Int) (cs ds : Array Value) (hcs : cs = (xs.map (Value.int .i64)).toArray) (hds : ds = (ys.map (Value.int .i64)).toArray) :
    DBox (((w.alloc (.cells cs 3)).alloc (.cells ds 3)).alloc (.cells #[.slice (some ⟨w.heap.size, 0, none⟩) xs.length xs.length, .slice (some ⟨w.heap.size + 1, 0, none⟩) ys.length ys.length, .int .i64 L] 24)) (w.heap.size + 1 + 1)
      (some ⟨w.heap.size, 0, none⟩) (some ⟨w.heap.size + 1, 0, none⟩) xs.length ys.length xs ys L ∧
    Below w.heap.size w (((w.alloc (.cells cs 3)).alloc (.cells ds 3)).alloc (.cells #[.slice (some ⟨w.heap.size, 0, none⟩) xs.length xs.length, .slice (some ⟨w.heap.size + 1, 0, none⟩) ys.length ys.length, .int .i64 L] 24)) := by
  have h1 := ((lit_RI w xs (· < w.heap.size + 1) (by omega) cs hcs).alloc (fun b hb => by simpa using hb) (.cells ds 3)).imp (T := (· < w.heap.size + 1 + 1)) fun b hb => by omega
  have h2 := lit_RI (w.alloc (.cells cs 3)) ys (· < w.heap.size + 1 + 1) (by simp) ds hds
  have e1 : (w.alloc (.cells cs 3)).heap.size = w.heap.size + 1 := by simp
  have hb : Below w.heap.size w ((w.alloc (.cells cs 3)).alloc (.cells ds 3)) := ((Below.refl _ _).alloc (Nat.le_refl _) _).alloc (by simp) _
  rw [e1] at h2
  generalize hW : (w.alloc (.cells cs 3)).alloc (.cells ds 3) = W at *
  have hs : W.heap.size = w.heap.size + 1 + 1 := by rw [← hW]; simp
  have := DBox.start (c1 := xs.length) (c2 := ys.length) (L := L) (w := W) (· < w.heap.size + 1 + 1) h1 h2 (fun b hb => by omega)
  rw [hs] at this
  exact ⟨this, hb.alloc (by omega) _⟩

theorem circ_T : (circL sgT mtT).length = 2 ∧ (strandsL sgT mtT).length = 1 ∧ (graphL mtT sgT.length).length = 1 := by decide +kernel
theorem isD_O : IsD [] [] 1 := by decide +kernel
theorem circ_O : (circL [] []).length = 0 ∧ (strandsL [] []).length = 0 ∧ (graphL [] ([] : List Int).length).length = 0 := by decide +kernel

set_option maxHeartbeats 4000000 in
theorem awake32 (w : World) : Calls Try.prog 11 #[] w fun e w' => e = .returned (.bool true) ∧ Below w.heap.size w w' := by
  have hbx := box_lit w sgT mtT 0 #[.int .i64 1, .int .i64 1, .int .i64 1] #[.int .i64 9, .int .i64 4, .int .i64 7, .int .i64 10, .int .i64 1, .int .i64 8, .int .i64 11, .int .i64 2, .int .i64 5, .int .i64 0, .int .i64 3, .int .i64 6] rfl rfl
  have HX := Lib.hid hbx
  have HT := Lib.hid circ_T
  have HO := Lib.hid circ_O
  clear hbx
  go_enter Try.func11, Try.ntmps11
  go_wp2_with fail
  obtain ⟨W, hW⟩ : ∃ W, ((w.alloc (.cells #[.int .i64 1, .int .i64 1, .int .i64 1] 3)).alloc (.cells #[.int .i64 9, .int .i64 4, .int .i64 7, .int .i64 10, .int .i64 1, .int .i64 8, .int .i64 11, .int .i64 2, .int .i64 5, .int .i64 0, .int .i64 3, .int .i64 6] 3)).alloc
    (.cells #[.slice (some ⟨w.heap.size, 0, none⟩) 3 3, .slice (some ⟨w.heap.size + 1, 0, none⟩) 12 12, .int .i64 0] 24) = W := ⟨_, rfl⟩
  have hD : DBox W (w.heap.size + 1 + 1) (some ⟨w.heap.size, 0, none⟩) (some ⟨w.heap.size + 1, 0, none⟩) 3 12 sgT mtT 0 := by rw [← hW]; exact HX.out.1
  have hB : Below w.heap.size w W := by rw [← hW]; exact HX.out.2
  rw [hW]
  have HD := Lib.hid hD
  have HB := Lib.hid hB
  clear hW hD hB HX
  refine (scirc_ok _ _ 3 12 sgT mtT 0 W (· < W.heap.size) HD.out.rs HD.out.rm (fun _ h => h) isD_T).mono ?_
  rintro e w1 ⟨v, rfl, hr, hb1⟩
  obtain ⟨Av, cv, rfl, -, -, -⟩ := hr.shape
  rw [rows_cycs_length, HT.out.1]
  have HD1 := Lib.hid (HD.out.below hb1)
  have HB1 := Lib.hid (HB.out.trans (hb1.mono HB.out.size))
  have k0 := HD1.out.c0
  have k1 := HD1.out.c1
  have k2 := HD1.out.c2
  simp only [show sgT.length = 3 from rfl] at k0
  simp only [show mtT.length = 12 from rfl] at k1
  clear hr hb1 HD HB
  go_wp2_with fail
  refine (seuler_ok _ _ 3 12 sgT mtT 0 w1 (· < w1.heap.size) HD1.out.rs HD1.out.rm (fun _ h => h) isD_T).mono ?_
  rintro e w2 ⟨rfl, hb2⟩
  rw [HT.out.1]
  have HD2 := Lib.hid (HD1.out.below hb2)
  have HB2 := Lib.hid (HB1.out.trans (hb2.mono HB1.out.size))
  clear k0 k1 k2 hb2 HD1 HB1
  have k0 := HD2.out.c0
  have k1 := HD2.out.c1
  have k2 := HD2.out.c2
  simp only [show sgT.length = 3 from rfl] at k0
  simp only [show mtT.length = 12 from rfl] at k1
  go_wp2_with fail
  refine (sgenus_ok _ _ 3 12 sgT mtT 0 w2 (· < w2.heap.size) HD2.out.rs HD2.out.rm (fun _ h => h) isD_T (by rw [HT.out.2.2]; rfl)).mono ?_
  rintro e w3 ⟨rfl, hb3⟩
  rw [HT.out.1, HT.out.2.1]
  have HB3 := Lib.hid (HB2.out.trans (hb3.mono HB2.out.size))
  clear k0 k1 k2 hb3 HD2 HB2
  go_wp2_with fail
  refine (sgenus_ok none none 0 0 [] [] 1 w3 (· < w3.heap.size) RI.nil RI.nil (fun _ h => h) isD_O (by rw [HO.out.2.2]; rfl)).mono ?_
  rintro e w4 ⟨rfl, hb4⟩
  rw [HO.out.1, HO.out.2.1]
  have HB4 := Lib.hid (HB3.out.trans (hb4.mono HB3.out.size))
  clear hb4 HB3
  go_wp2_with fail
  go_ret
  exact ⟨rfl, HB4.out⟩

section
variable (A1 A2 : Option Addr) (c1 c2 : Nat) (sg mt : List Int) (L : Int) (w : World)
theorem small_no (h : 14 < sg.length ∨ 80 < mt.length) :
    Calls Try.prog 12 #[.agg #[.slice A1 sg.length c1, .slice A2 mt.length c2, .int .i64 L]] w fun e w' => e = .returned (.int .i64 0) ∧ Below w.heap.size w w' := by
  have hb := Lib.hid ((Below.refl w.heap.size w).alloc (Nat.le_refl _) (.cells #[.slice A1 sg.length c1, .slice A2 mt.length c2, .int .i64 L] 24))
  by_cases h1 : (14 : Int) < sg.length
  · clear h
    go_enter Try.func12, Try.ntmps12
    go_wp2_with fail
    go_ret
    exact ⟨rfl, hb.out⟩
  · have h2 : (80 : Int) < mt.length := by omega
    clear h
    go_enter Try.func12, Try.ntmps12
    go_wp2_with fail
    go_ret
    exact ⟨rfl, hb.out⟩
theorem small_yes (h1 : ¬ 14 < sg.length) (h2 : ¬ 80 < mt.length) :
    Calls Try.prog 12 #[.agg #[.slice A1 sg.length c1, .slice A2 mt.length c2, .int .i64 L]] w fun e w' => e = .returned (.int .i64 1) ∧ Below w.heap.size w w' := by
  have hb := Lib.hid ((Below.refl w.heap.size w).alloc (Nat.le_refl _) (.cells #[.slice A1 sg.length c1, .slice A2 mt.length c2, .int .i64 L] 24))
  have g1 : ¬ (14 : Int) < sg.length := by omega
  have g2 : ¬ (80 : Int) < mt.length := by omega
  clear h1 h2
  go_enter Try.func12, Try.ntmps12
  go_wp2_with fail
  go_ret
  exact ⟨rfl, hb.out⟩
end
end Go.Proofs.Ytaghemilihaiaaa

