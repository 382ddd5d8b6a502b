/-
  The contract of wirtinger.Arcs.
-/
import Derived.Test.YtcjgfncbecbhjaaWord
import Derived.Test.YtcjgfncbecbhjaaRValid
namespace Go.Proofs.Ytcjgfncbecbhjaa
open Go.RowKit

section
variable (A1 A2 : Option Addr) (c1 c2 : Nat) (sg mt : List Int) (L : Int) (w : World) (S : Nat → Prop) (hx : RI w S A1 sg) (hy : RI w S A2 mt) (hS : ∀ b, S b → b < w.heap.size)
include hx hy hS
set_option maxHeartbeats 1000000 in
theorem wArcs_no (hm1 : sg.length ≤ maxLen) (hm2 : mt.length ≤ maxLen) (hno : ¬ IsD sg mt L) :
    Calls Try.prog 14 #[.agg #[.slice A1 sg.length c1, .slice A2 mt.length c2, .int .i64 L]] w fun e w' => e = .returned (.tuple #[.slice none 0 0, .int .i64 0, .int .i64 1]) ∧ Below w.heap.size w w' := by
  have HD := Lib.hid (DBox.start (c1 := c1) (c2 := c2) (L := L) S hx hy hS)
  have H := Lib.hid (decide_eq_false hno)
  clear hx hy hS hno
  go_enter Try.func14, Try.ntmps14
  go_wp2_with fail
  refine (dvalid_is _ false HD.out.rs HD.out.rm (fun _ h => h) hm1 hm2 H.out).mono ?_
  rintro e w1 ⟨rfl, hb1⟩
  go_wp2_with fail
  go_ret3
  exact ⟨rfl, below_box (by simpa using hb1)⟩
set_option maxHeartbeats 2000000 in
theorem wArcs_ok (hd : IsD sg mt L) :
    Calls Try.prog 14 #[.agg #[.slice A1 sg.length c1, .slice A2 mt.length c2, .int .i64 L]] w fun e w' => ∃ v, e = .returned (.tuple #[v, .int .i64 ((arC sg mt : Int) + L), .int .i64 0]) ∧ OI w' w.heap.size v (arL sg mt) ∧ Below w.heap.size w w' := by
  have HD := Lib.hid (DBox.start (c1 := c1) (c2 := c2) (L := L) S hx hy hS)
  have H := Lib.hid hd
  have hcn : arC sg mt ≤ 256 := by
    have h1 := cnt_le (headB (arR sg mt)) mt.length
    have h2 := hd.1
    have h3 := hd.2.1
    unfold arC; omega
  obtain ⟨m, hm⟩ : ∃ m, arC sg mt = m := ⟨_, rfl⟩
  rw [hm] at hcn ⊢
  have HM := Lib.hid hm
  have hL1 := hd.2.2.1
  have hL2 := hd.2.2.2.1
  have hm1 : sg.length ≤ maxLen := by have := hd.1; unfold maxLen; omega
  have hm2 : mt.length ≤ maxLen := by have := hd.1; have := hd.2.1; unfold maxLen; omega
  have hs1 : IntKind.i64.wrap ((m : Int) + L) = (m : Int) + L := IntWalk.i64_in _ (by omega)
  clear hx hy hS hd hm
  go_enter Try.func14, Try.ntmps14
  go_wp2_with fail
  refine (dvalid_is _ true HD.out.rs HD.out.rm (fun _ h => h) hm1 hm2 (decide_eq_true H.out)).mono ?_
  rintro e w1 ⟨rfl, hb1⟩
  have HD1 := Lib.hid (HD.out.below hb1)
  have k0 := HD1.out.c0
  have k1 := HD1.out.c1
  have k2 := HD1.out.c2
  have HB1 := Lib.hid (below_box (o := (.cells #[.slice A1 sg.length c1, .slice A2 mt.length c2, .int .i64 L] 24)) (by simpa using hb1))
  have hs1' := HB1.out.size
  clear hb1 HD
  go_wp2_with fail
  refine (arcs_ok A1 A2 c1 c2 sg mt L w1 (· < w1.heap.size) HD1.out.rs HD1.out.rm (fun _ h => h) H.out).mono ?_
  rintro e w2 ⟨v, rfl, ho, hb2⟩
  rw [HM.out]
  have HO := Lib.hid (ho.mono hs1')
  have HB2 := Lib.hid (HB1.out.trans (hb2.mono hs1'))
  have HD2 := Lib.hid (HD1.out.below hb2)
  clear k0 k1 k2 ho hb2 HD1 HB1
  have k2 := HD2.out.c2
  go_wp2_with fail
  go_quiet (fail)
  go_wp2_with fail
  go_ret3
  exact ⟨v, rfl, HO.out.drewN _, below_drewN HB2.out _⟩
end
end Go.Proofs.Ytcjgfncbecbhjaa

