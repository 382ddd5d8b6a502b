/-
  The contract of word.Valid.
-/
import Derived.Test.YtcjgfncbecbhjaaOf
import Derived.Test.YtcjgfncbecbhjaaInts
import Derived.Test.YtcjgfncbecbhjaaRLists
namespace Go.Proofs.Ytcjgfncbecbhjaa
open Go.RowKit

def LV (r x : Int) : Prop := 1 ≤ r ∧ x ≠ 0 ∧ x ≤ r ∧ -r ≤ x
instance (r x : Int) : Decidable (LV r x) := by unfold LV; infer_instance
/-- a word is valid for a rank -/
def WV (r : Int) (xs : List Int) : Prop := ∀ k, k < xs.length → LV r (gi xs k)
instance (r : Int) (xs : List Int) : Decidable (WV r xs) := by unfold WV; infer_instance

set_option maxHeartbeats 2000000 in
theorem wvalid_any (A : Option Addr) (c : Nat) (xs : List Int) (r : Int) (w : World) (S : Nat → Prop) (hx : RI w S A xs) (hm : xs.length ≤ maxLen) (hr : 0 ≤ r ∧ r ≤ 1000) :
    Calls Try.prog 53 #[.slice A xs.length c, .int .i64 r] w fun e w' => e = .returned (.bool (decide (WV r xs))) ∧ w = w' := by
  unfold maxLen at hm
  have wn : IntKind.i64.wrap (-r) = -r := IntWalk.i64_in _ (by omega)
  have HX := Lib.hid hx
  clear hx
  go_enter Try.func53, Try.ntmps53
  go_wp2_with fail
  go_loopw [9] (fun i wr => ∃ k : Nat, k ≤ xs.length ∧ i = .int .i64 k ∧ w = wr ∧ Hid (∀ j, j < k → LV r (gi xs j))) (fun i _ => xs.length - (intOf i).toNat)
  case atStart => exact ⟨0, Nat.zero_le _, rfl, rfl, fun j hj => by omega⟩
  case round =>
    obtain ⟨k, hk, rfl, rfl, HA⟩ := hrel
    by_cases hlt : k < xs.length
    · obtain ⟨b, off, rfl, -, hc⟩ := HX.out.at_ hlt
      have c1 := hc k hlt
      have hbad : ¬ LV r (gi xs k) → decide (WV r xs) = false := fun h => decide_eq_false fun hw => h (hw k hlt)
      have hgood : LV r (gi xs k) → ∀ j, j < k + 1 → LV r (gi xs j) := fun h j hj => by
        rcases Nat.lt_or_eq_of_le (Nat.le_of_lt_succ hj) with h1 | rfl
        · exact HA.out j h1
        · exact h
      have HBD := Lib.hid hbad
      have HGD := Lib.hid hgood
      obtain ⟨y, hy⟩ : ∃ y, gi xs k = y := ⟨_, rfl⟩
      rw [hy] at c1 HBD HGD
      clear hc hbad hgood hy
      by_cases g1 : r < 1
      · have HE := Lib.hid (HBD.out (fun h => by have := h.1; omega))
        go_wp2_with fail
        go_ret
        exact ⟨ret_bool HE.out.symm, rfl⟩
      by_cases g2 : y = 0
      · have g2' : (y == 0) = true := by rw [beq_iff_eq]; exact g2
        have HE := Lib.hid (HBD.out (fun h => h.2.1 g2))
        clear g2
        go_wp2_with fail
        go_ret
        exact ⟨ret_bool HE.out.symm, rfl⟩
      have g2' : (y == 0) = false := by rw [beq_eq_false_iff_ne]; exact g2
      by_cases g3 : r < y
      · have HE := Lib.hid (HBD.out (fun h => by have := h.2.2.1; omega))
        clear g2
        go_wp2_with fail
        go_ret
        exact ⟨ret_bool HE.out.symm, rfl⟩
      by_cases g4 : y < -r
      · have HE := Lib.hid (HBD.out (fun h => by have := h.2.2.2; omega))
        clear g2
        go_wp2_with fail
        go_ret
        exact ⟨ret_bool HE.out.symm, rfl⟩
      have HG := Lib.hid (HGD.out ⟨by omega, g2, by omega, by omega⟩)
      clear g2
      go_wp2_with fail
      go_roundw
      case rel => exact ⟨k + 1, by omega, by go_num, by trivial, HG⟩
      case measure => simp [intOf]; omega
    · have HE := Lib.hid (decide_eq_true (show WV r xs from fun j hj => HA.out j (by omega)))
      go_wp2_with fail
      go_ret
      exact ⟨ret_bool HE.out.symm, rfl⟩

/-- a group is valid -/
def GV (g : Int) (cs : List Int) (wss : List (List Int)) : Prop := 0 ≤ g ∧ g ≤ 1000 ∧ (cs.length : Int) = g ∧ (∀ k, k < cs.length → 0 ≤ gi cs k ∧ gi cs k < g) ∧ ∀ i, i < wss.length → WV g (wss.getD i [])
instance (g : Int) (cs : List Int) (wss : List (List Int)) : Decidable (GV g cs wss) := by unfold GV; infer_instance

set_option maxHeartbeats 4000000 in
theorem gvalid_any (Ac Aw : Option Addr) (cc cw : Nat) (g : Int) (cs : List Int) (wss : List (List Int)) (w : World) (S T : Nat → Prop) (hc : RI w S Ac cs) (hS : ∀ b, S b → b < w.heap.size) (hw : RL w T Aw wss) (hT : ∀ b, T b → b < w.heap.size) (hm : cs.length ≤ maxLen) (hn : wss.length ≤ maxLen) :
    Calls Try.prog 22 #[.agg #[.int .i64 g, .slice Ac cs.length cc, .slice Aw wss.length cw]] w fun e w' => e = .returned (.bool (decide (GV g cs wss))) ∧ Below w.heap.size w w' := by
  unfold maxLen at hm hn
  have hbx := (Below.refl w.heap.size w).alloc (Nat.le_refl _) (.cells #[.int .i64 g, .slice Ac cs.length cc, .slice Aw wss.length cw] 35)
  have HB := Lib.hid hbx
  have HC := Lib.hid (hc.keep (w' := w.alloc (.cells #[.int .i64 g, .slice Ac cs.length cc, .slice Aw wss.length cw] 35)) fun b hb => Below.heap_alloc w _ b (hS b hb))
  have HW := Lib.hid (hw.keep (w' := w.alloc (.cells #[.int .i64 g, .slice Ac cs.length cc, .slice Aw wss.length cw] 35)) fun b hb => Below.heap_alloc w _ b (hT b hb))
  have HG : Hid (GBox (w.alloc (.cells #[.int .i64 g, .slice Ac cs.length cc, .slice Aw wss.length cw] 35)) w.heap.size g (.slice Ac cs.length cc) (.slice Aw wss.length cw)) := heap_alloc_new _ _
  clear hc hS hw hT hbx
  by_cases g1 : g < 0
  · have HE := Lib.hid (decide_eq_false (show ¬ GV g cs wss from fun h => by have := h.1; omega))
    go_enter Try.func22, Try.ntmps22
    go_wp2_with fail
    go_ret
    exact ⟨ret_bool HE.out.symm, HB.out⟩
  by_cases g2 : 1000 < g
  · have HE := Lib.hid (decide_eq_false (show ¬ GV g cs wss from fun h => by have := h.2.1; omega))
    go_enter Try.func22, Try.ntmps22
    go_wp2_with fail
    go_ret
    exact ⟨ret_bool HE.out.symm, HB.out⟩
  by_cases g3 : (cs.length : Int) = g
  case neg =>
    have HE := Lib.hid (decide_eq_false (show ¬ GV g cs wss from fun h => g3 h.2.2.1))
    have g3' : ((cs.length : Int) != g) = true := by rw [bne_iff_ne]; exact g3
    clear g3
    go_enter Try.func22, Try.ntmps22
    go_wp2_with fail
    go_ret
    exact ⟨ret_bool HE.out.symm, HB.out⟩
  have g3' : ((cs.length : Int) != g) = false := by rw [bne_eq_false_iff_eq]; exact g3
  have H3 := Lib.hid g3
  have H0 := Lib.hid (And.intro g1 g2)
  have hr : 0 ≤ g ∧ g ≤ 1000 := by omega
  clear g3
  go_enter Try.func22, Try.ntmps22
  go_wp2_with fail
  obtain ⟨W, hW⟩ : ∃ W, w.alloc (.cells #[.int .i64 g, .slice Ac cs.length cc, .slice Aw wss.length cw] 35) = W := ⟨_, rfl⟩
  rw [hW] at HB HC HW HG ⊢
  clear hW
  obtain ⟨k0, k1, k2⟩ := HG.out.cells
  have HA0 : Hid (∀ j, j < 0 → 0 ≤ gi cs j ∧ gi cs j < g) := fun j hj => by omega
  go_loopw [26] (fun i wr => ∃ k : Nat, k ≤ cs.length ∧ i = .int .i64 k ∧ W = wr ∧ Hid (∀ j, j < k → 0 ≤ gi cs j ∧ gi cs j < g)) (fun i _ => cs.length - (intOf i).toNat)
  case atStart => exact ⟨0, Nat.zero_le _, rfl, rfl, HA0⟩
  case round =>
    clear HA0
    obtain ⟨k, hk, rfl, rfl, HA⟩ := hrel
    by_cases hlt : k < cs.length
    · obtain ⟨b, off, rfl, -, hc⟩ := HC.out.at_ hlt
      have c1 := hc k hlt
      have hbad : ¬ (0 ≤ gi cs k ∧ gi cs k < g) → decide (GV g cs wss) = false := fun h => decide_eq_false fun hw => h (hw.2.2.2.1 k hlt)
      have hgood : (0 ≤ gi cs k ∧ gi cs k < g) → ∀ j, j < k + 1 → 0 ≤ gi cs j ∧ gi cs j < g := fun h j hj => by
        rcases Nat.lt_or_eq_of_le (Nat.le_of_lt_succ hj) with h1 | rfl
        · exact HA.out j h1
        · exact h
      have HBD := Lib.hid hbad
      have HGD := Lib.hid hgood
      obtain ⟨y, hy⟩ : ∃ y, gi cs k = y := ⟨_, rfl⟩
      rw [hy] at c1 HBD HGD
      clear hc hbad hgood hy
      by_cases y1 : y < 0
      · have HE := Lib.hid (HBD.out (fun h => by omega))
        go_wp2_with fail
        go_ret
        exact ⟨ret_bool HE.out.symm, HB.out⟩
      by_cases y2 : g ≤ y
      · have HE := Lib.hid (HBD.out (fun h => by omega))
        go_wp2_with fail
        go_ret
        exact ⟨ret_bool HE.out.symm, HB.out⟩
      have HGG := Lib.hid (HGD.out ⟨by omega, by omega⟩)
      go_wp2_with fail
      go_roundw
      case rel => exact ⟨k + 1, by omega, by go_num, by trivial, HGG⟩
      case measure => simp [intOf]; omega
    · obtain rfl : cs.length = k := by omega
      have HV0 : Hid (∀ i, i < 0 → WV g (wss.getD i [])) := fun i hi => by omega
      clear hlt
      go_wp2_with fail
      go_loopw [42] (fun i wr => ∃ k : Nat, k ≤ wss.length ∧ i = .int .i64 k ∧ W = wr ∧ Hid (∀ i, i < k → WV g (wss.getD i []))) (fun i _ => wss.length - (intOf i).toNat)
      case atStart => exact ⟨0, Nat.zero_le _, rfl, rfl, HV0⟩
      case round =>
        clear HV0
        obtain ⟨k, hk, rfl, rfl, HV⟩ := hrel
        by_cases hlt : k < wss.length
        · obtain ⟨b, off, rfl, -, hc⟩ := HW.out.at_ hlt
          obtain ⟨Ak, ck, k3, r3, l3⟩ := hc k hlt
          have hbad : ¬ WV g (wss.getD k []) → decide (GV g cs wss) = false := fun h => decide_eq_false fun hw => h (hw.2.2.2.2 k hlt)
          have hgood : WV g (wss.getD k []) → ∀ j, j < k + 1 → WV g (wss.getD j []) := fun h j hj => by
            rcases Nat.lt_or_eq_of_le (Nat.le_of_lt_succ hj) with h1 | rfl
            · exact HV.out j h1
            · exact h
          have HBD := Lib.hid hbad
          have HGD := Lib.hid hgood
          obtain ⟨xs, hxs⟩ : ∃ xs, wss.getD k [] = xs := ⟨_, rfl⟩
          rw [hxs] at k3 r3 l3 HBD HGD
          have HCL := Lib.hid (wvalid_any Ak ck xs g W T r3 l3 hr)
          clear hc hbad hgood hxs r3 l3
          go_wp2_with fail
          refine HCL.out.mono ?_
          rintro e w1 ⟨rfl, rfl⟩
          by_cases hv : WV g xs
          · rw [decide_eq_true hv]
            have HGG := Lib.hid (HGD.out hv)
            go_wp2_with fail
            go_roundw
            case rel => exact ⟨k + 1, by omega, by go_num, by trivial, HGG⟩
            case measure => simp [intOf]; omega
          · rw [decide_eq_false hv]
            have HE := Lib.hid (HBD.out hv)
            go_wp2_with fail
            go_ret
            exact ⟨ret_bool HE.out.symm, HB.out⟩
        · have HE := Lib.hid (decide_eq_true (show GV g cs wss from ⟨by omega, by omega, H3.out, fun j hj => HA.out j hj, fun i hi => HV.out i (by omega)⟩))
          go_wp2_with fail
          go_ret
          exact ⟨ret_bool HE.out.symm, HB.out⟩
end Go.Proofs.Ytcjgfncbecbhjaa

