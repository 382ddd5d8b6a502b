/-
  The examples of layer 26 hold.
-/
import Derived.Test.YtjlokbolmindgaaLit
import Derived.Test.YtjlokbolmindgaaSmith
import Derived.Test.YtjlokbolmindgaaSEq
namespace Go.Proofs.Ytjlokbolmindgaa
open Go.RowKit

abbrev mA : List (List Int) := [[2, 4], [6, 8]]
abbrev mB : List (List Int) := [[2, -1, -1], [-1, 2, -1], [-1, -1, 2]]
def dA (j : Nat) : Nat := if j = 0 then 2 else 4
def dB (j : Nat) : Nat := if j = 0 then 1 else if j = 1 then 3 else 0
theorem smD_A : SmD mA dA := by
  refine ⟨?_, fun i hi => ?_⟩
  · refine .cong (.rneg 1 (by decide) (.cadd 1 0 (-2) (by decide) (by decide) (by decide) (.radd 1 0 (-3) (by decide) (by decide) (by decide) (.refl _)))) ?_
    intro i j hi hj
    have : ∀ i, i < 2 → ∀ j, j < 2 → dgM dA i j = (fun i j => if i = 1 then -(fun i j => if j = 1 then (fun i j => if i = 1 then eI mA i j + -3 * eI mA 0 j else eI mA i j) i j + -2 * (fun i j => if i = 1 then eI mA i j + -3 * eI mA 0 j else eI mA i j) i 0 else (fun i j => if i = 1 then eI mA i j + -3 * eI mA 0 j else eI mA i j) i j) i j else (fun i j => if j = 1 then (fun i j => if i = 1 then eI mA i j + -3 * eI mA 0 j else eI mA i j) i j + -2 * (fun i j => if i = 1 then eI mA i j + -3 * eI mA 0 j else eI mA i j) i 0 else (fun i j => if i = 1 then eI mA i j + -3 * eI mA 0 j else eI mA i j) i j) i j) i j := by decide +kernel
    exact this i hi j hj
  · have hi2 : i + 1 < 2 := hi
    obtain rfl : i = 0 := by omega
    decide
theorem smD_B : SmD mB dB := by
  refine ⟨?_, fun i hi => ?_⟩
  · have key : ∀ (X : Mx), X = eI mB → Eqv 3 3 X (dgM dB) := by
      intro X hX
      have h1 := Eqv.rsw (n := 3) (c := 3) 0 1 (by decide) (by decide) (by decide) (.refl X)
      have h2 := h1.rneg 0 (by decide)
      have h3 := h2.radd 1 0 (-2) (by decide) (by decide) (by decide)
      have h4 := h3.radd 2 0 1 (by decide) (by decide) (by decide)
      have h5 := h4.cadd 1 0 2 (by decide) (by decide) (by decide)
      have h6 := h5.cadd 2 0 (-1) (by decide) (by decide) (by decide)
      have h7 := h6.radd 2 1 1 (by decide) (by decide) (by decide)
      have h8 := h7.cadd 2 1 1 (by decide) (by decide) (by decide)
      refine h8.cong ?_
      subst hX
      intro i j hi hj
      have hi' : i = 0 ∨ i = 1 ∨ i = 2 := by omega
      have hj' : j = 0 ∨ j = 1 ∨ j = 2 := by omega
      rcases hi' with rfl | rfl | rfl <;> rcases hj' with rfl | rfl | rfl <;> decide +kernel
    exact key _ rfl
  · have hi2 : i + 1 < 3 := hi
    have hi' : i = 0 ∨ i = 1 := by omega
    rcases hi' with rfl | rfl <;> decide
theorem aw_det : dtV mA = -8 ∧ dtE mA = 0 := by decide +kernel
theorem aw_rk : rkE mB = 0 ∧ smL mB dB = [1, 3, 0] := by decide +kernel
theorem aw_ker : krE mA 4 = 0 ∧ krV mA 4 = 8 := by
  have hk : kerN mA.length (rowL mA 0) (eI mA) 4 = 8 := by
    rw [ker_soN smD_A (by decide)]
    decide +kernel
  have h1 : krE mA 4 = 0 := by
    unfold krE
    rw [if_pos (by decide +kernel), if_pos (by decide), if_pos (by decide +kernel)]
    show (if kerN mA.length (rowL mA 0) (eI mA) 4 ≤ _ then 0 else 9) = 0
    rw [hk]
    rfl
  refine ⟨h1, ?_⟩
  unfold krV
  rw [if_pos h1]
  exact hk
set_option maxHeartbeats 4000000 in
theorem awake26 (w : World) : Calls Try.prog 11 #[] w fun e w' => e = .returned (.bool true) ∧ Below w.heap.size w w' := by
  have HA := Lib.hid (AM.lit2 w [2, 4] [6, 8] #[.int .i64 2, .int .i64 4] #[.int .i64 6, .int .i64 8] rfl rfl (by decide) (by decide) (by decide) (by decide))
  have HB := Lib.hid (fun w => AM.lit3 w [2, -1, -1] [-1, 2, -1] [-1, -1, 2] #[.int .i64 2, .int .i64 (-1), .int .i64 (-1)] #[.int .i64 (-1), .int .i64 2, .int .i64 (-1)] #[.int .i64 (-1), .int .i64 (-1), .int .i64 2] rfl rfl rfl (by decide) (by decide) (by decide) (by decide) (by decide) (by decide))
  go_enter Try.func11, Try.ntmps11
  go_wp2_with fail
  have HBL : Hid (Below w.heap.size w (((w.alloc (.cells #[.int .i64 2, .int .i64 4] 3)).alloc (.cells #[.int .i64 6, .int .i64 8] 3)).alloc (.cells #[.slice (some ⟨w.heap.size, 0, none⟩) 2 2, .slice (some ⟨w.heap.size + 1, 0, none⟩) 2 2] 28))) := (((Below.refl _ _).alloc (Nat.le_refl _) _).alloc (by simp) _).alloc (by simp; omega) _
  simp only [List.length_cons, List.length_nil, Nat.zero_add, Nat.reduceAdd] at HA
  generalize ((w.alloc (.cells #[.int .i64 2, .int .i64 4] 3)).alloc (.cells #[.int .i64 6, .int .i64 8] 3)).alloc (.cells #[.slice (some ⟨w.heap.size, 0, none⟩) 2 2, .slice (some ⟨w.heap.size + 1, 0, none⟩) 2 2] 28) = w0 at HA HBL ⊢
  refine (det_any (cap := 2) HA.out).mono ?_
  rintro e w1 ⟨rfl, hb⟩
  have HA1 := Lib.hid (HA.out.call hb)
  have HB1 := Lib.hid (HBL.out.trans (hb.mono HBL.out.size))
  rw [show dtV [[2, 4], [6, 8]] = -8 from aw_det.1, show dtE [[2, 4], [6, 8]] = 0 from aw_det.2]
  have HB3 := Lib.hid (HB.out w1)
  clear hb HA HBL HB
  go_wp2_with fail
  simp only [List.length_cons, List.length_nil, Nat.zero_add, Nat.reduceAdd] at HB3
  have HBL : Hid (Below w1.heap.size w1 ((((w1.alloc (.cells #[.int .i64 2, .int .i64 (-1), .int .i64 (-1)] 3)).alloc (.cells #[.int .i64 (-1), .int .i64 2, .int .i64 (-1)] 3)).alloc (.cells #[.int .i64 (-1), .int .i64 (-1), .int .i64 2] 3)).alloc (.cells #[.slice (some ⟨w1.heap.size, 0, none⟩) 3 3, .slice (some ⟨w1.heap.size + 1, 0, none⟩) 3 3, .slice (some ⟨w1.heap.size + 1 + 1, 0, none⟩) 3 3] 28))) := ((((Below.refl _ _).alloc (Nat.le_refl _) _).alloc (by simp) _).alloc (by simp; omega) _).alloc (by simp; omega) _
  generalize (((w1.alloc (.cells #[.int .i64 2, .int .i64 (-1), .int .i64 (-1)] 3)).alloc (.cells #[.int .i64 (-1), .int .i64 2, .int .i64 (-1)] 3)).alloc (.cells #[.int .i64 (-1), .int .i64 (-1), .int .i64 2] 3)).alloc (.cells #[.slice (some ⟨w1.heap.size, 0, none⟩) 3 3, .slice (some ⟨w1.heap.size + 1, 0, none⟩) 3 3, .slice (some ⟨w1.heap.size + 1 + 1, 0, none⟩) 3 3] 28) = w2 at HB3 HBL ⊢
  refine (smith_any (cap := 3) HB3.out smD_B).mono ?_
  rintro e w3 ⟨V, rfl, hV, hb, -⟩
  have HA2 := Lib.hid ((HA1.out.call HBL.out).call hb)
  have HB2 := Lib.hid (HB1.out.trans ((HBL.out.trans (hb.mono HBL.out.size)).mono HB1.out.size))
  rw [show rkE [[2, -1, -1], [-1, 2, -1], [-1, -1, 2]] = 0 from aw_rk.1]
  rw [show smL [[2, -1, -1], [-1, 2, -1], [-1, -1, 2]] dB = [1, 3, 0] from aw_rk.2] at hV
  obtain ⟨A2, c2, rfl, -, -, hri⟩ := hV.reads
  have HRI := Lib.hid (hri.imp (T := (· < w3.heap.size)) fun b hb => hb.2)
  clear hV hb HA1 HB1 HB3 HBL hri
  simp only [List.length_cons, List.length_nil, Nat.zero_add, Nat.reduceAdd]
  go_wp2_with fail
  refine (kernel_any (cap := 2) 4 HA2.out).mono ?_
  rintro e w4 ⟨rfl, hb⟩
  have HRI4 := Lib.hid (HRI.out.below hb)
  have HB4 := Lib.hid (HB2.out.trans (hb.mono HB2.out.size))
  have HS4 := Lib.hid hb.size
  rw [show krE [[2, 4], [6, 8]] 4 = 0 from aw_ker.1, show krV [[2, 4], [6, 8]] 4 = 8 from aw_ker.2]
  clear hb HA2 HRI HB2
  go_wp2_with fail
  refine (sequal_any A2 (some ⟨w4.heap.size, 0, none⟩) c2 3 [1, 3, 0] [1, 3, 0] _ (· < w3.heap.size) (fun _ => True) (HRI4.out.keep fun b hb => ?_) (lit_RI w4 [1, 3, 0] _ trivial #[.int .i64 1, .int .i64 3, .int .i64 0] rfl) (by decide) (by decide)).mono ?_
  · exact Below.heap_alloc w4 _ b (Nat.lt_of_lt_of_le hb HS4.out)
  · rintro e w5 ⟨rfl, n5, rfl⟩
    go_wp2_with fail
    go_ret
    exact ⟨rfl, below_drewN (HB4.out.alloc HB4.out.size _) n5⟩
end Go.Proofs.Ytjlokbolmindgaa

