/-
  The example of layer 22 holds; few tells what it should; Of, Arcs of a diagram that is not valid.
-/
import Derived.Test.YtcjgfncbecbhjaaOf
import Derived.Test.YtcjgfncbecbhjaaAwake
namespace Go.Proofs.Ytcjgfncbecbhjaa
open Go.RowKit

abbrev sgE : List Int := [1]
abbrev mtE : List Int := [1, 0, 3, 2]
theorem isD_E : IsD sgE mtE 0 := by decide +kernel
theorem of_K : arC sgE mtE = 1 ∧ (cmpL sgE mtE 0).length = 1 ∧ wrdL sgE mtE sgE.length = [[]] := by decide +kernel

theorem two_lit (w : World) (xs ys : List Int) (cs ds : Array Value) (hcs : cs = (xs.map (Value.int .i64)).toArray) (hds : ds = (ys.map (Value.int .i64)).toArray) :
    RI ((w.alloc (.cells cs 3)).alloc (.cells ds 3)) (· < w.heap.size + 2) (some ⟨w.heap.size, 0, none⟩) xs ∧ RI ((w.alloc (.cells cs 3)).alloc (.cells ds 3)) (· < w.heap.size + 2) (some ⟨w.heap.size + 1, 0, none⟩) ys ∧
    Below w.heap.size w ((w.alloc (.cells cs 3)).alloc (.cells ds 3)) := by
  have h1 := ((lit_RI w xs (· < w.heap.size + 1) (by omega) cs hcs).alloc (fun b hb => by simpa using hb) (.cells ds 3)).imp (T := (· < w.heap.size + 2)) fun b hb => by omega
  have h2 := lit_RI (w.alloc (.cells cs 3)) ys (· < w.heap.size + 2) (by simp) ds hds
  have e1 : (w.alloc (.cells cs 3)).heap.size = w.heap.size + 1 := by simp
  rw [e1] at h2
  exact ⟨h1, h2, ((Below.refl _ _).alloc (Nat.le_refl _) _).alloc (by simp) _⟩

set_option maxHeartbeats 4000000 in
theorem awake22 (w : World) : Calls Try.prog 12 #[] w fun e w' => e = .returned (.bool true) ∧ Below w.heap.size w w' := by
  have HX := Lib.hid (two_lit w sgE mtE #[.int .i64 1] #[.int .i64 1, .int .i64 0, .int .i64 3, .int .i64 2] rfl rfl)
  have HK := Lib.hid of_K
  go_enter Try.func12, Try.ntmps12
  go_wp2_with fail
  obtain ⟨W, hW⟩ : ∃ W, (w.alloc (.cells #[.int .i64 1] 3)).alloc (.cells #[.int .i64 1, .int .i64 0, .int .i64 3, .int .i64 2] 3) = W := ⟨_, rfl⟩
  have hs : W.heap.size = w.heap.size + 2 := by rw [← hW]; simp
  rw [hW] at HX ⊢
  clear hW
  refine (of_ok _ _ 1 4 sgE mtE 0 W (· < w.heap.size + 2) HX.out.1 HX.out.2.1 (fun b hb => by omega) isD_E).mono ?_
  rintro e w1 ⟨v2, v3, rfl, ho, hr, hb1⟩
  have HB1 := Lib.hid (HX.out.2.2.trans (hb1.mono (by omega)))
  obtain ⟨A2, c2, rfl, -, -, -⟩ := ho.shape
  rw [show (0 : Int).toNat = 0 from rfl, HK.out.2.1]
  rw [HK.out.2.2] at hr
  rw [HK.out.1]
  obtain ⟨g, c, A, c', rfl, -, hgl, k1, -, -⟩ := hr.at_ (k := 0) (by simp)
  simp only [List.length_cons, List.length_nil, List.getD_cons_zero] at k1 ⊢
  clear ho hr hb1 HX
  go_wp2_with fail
  go_ret
  exact ⟨rfl, HB1.out.alloc HB1.out.size _⟩

def fewB (sg mt : List Int) (L : Int) : Prop := sg.length ≤ 12 ∧ mt.length ≤ 60 ∧ (L ≤ 12 ∨ 64 < L)
instance (sg mt : List Int) (L : Int) : Decidable (fewB sg mt L) := by unfold fewB; infer_instance
section
variable (A1 A2 : Option Addr) (c1 c2 : Nat) (sg mt : List Int) (L : Int) (w : World)
theorem few_no (h : ¬ fewB sg mt L) :
    Calls Try.prog 13 #[.agg #[.slice A1 sg.length c1, .slice A2 mt.length c2, .int .i64 L]] w fun e w' => e = .returned (.bool false) ∧ Below w.heap.size w w' := by
  have hb := Lib.hid ((Below.refl w.heap.size w).alloc (Nat.le_refl _) (.cells #[.slice A1 sg.length c1, .slice A2 mt.length c2, .int .i64 L] 24))
  unfold fewB at h
  by_cases h1 : (sg.length : Int) ≤ 12
  · by_cases h2 : (mt.length : Int) ≤ 60
    · have h3 : ¬ L ≤ 12 := fun e => h ⟨by omega, by omega, .inl e⟩
      have h4 : ¬ 64 < L := fun e => h ⟨by omega, by omega, .inr e⟩
      clear h
      go_enter Try.func13, Try.ntmps13
      go_wp2_with fail
      go_ret
      exact ⟨rfl, hb.out⟩
    · clear h
      go_enter Try.func13, Try.ntmps13
      go_wp2_with fail
      go_ret
      exact ⟨rfl, hb.out⟩
  · clear h
    go_enter Try.func13, Try.ntmps13
    go_wp2_with fail
    go_ret
    exact ⟨rfl, hb.out⟩
theorem few_yes (h : fewB sg mt L) :
    Calls Try.prog 13 #[.agg #[.slice A1 sg.length c1, .slice A2 mt.length c2, .int .i64 L]] w fun e w' => e = .returned (.bool true) ∧ Below w.heap.size w w' := by
  have hb := Lib.hid ((Below.refl w.heap.size w).alloc (Nat.le_refl _) (.cells #[.slice A1 sg.length c1, .slice A2 mt.length c2, .int .i64 L] 24))
  obtain ⟨h1, h2, h3⟩ := h
  have g1 : (sg.length : Int) ≤ 12 := by omega
  have g2 : (mt.length : Int) ≤ 60 := by omega
  by_cases g3 : L ≤ 12
  · clear h1 h2 h3
    go_enter Try.func13, Try.ntmps13
    go_wp2_with fail
    go_ret
    exact ⟨rfl, hb.out⟩
  · have g4 : 64 < L := by omega
    clear h1 h2 h3
    go_enter Try.func13, Try.ntmps13
    go_wp2_with fail
    go_ret
    exact ⟨rfl, hb.out⟩
end
end Go.Proofs.Ytcjgfncbecbhjaa

