/-
  The contracts of Great and Out, as the laws use them.
-/
import Derived.Test.YtkanpcdjhaepjaaAwake
import Derived.Test.YtkanpcdjhaepjaaRValid
import Derived.Test.YtkanpcdjhaepjaaDArg
namespace Go.Proofs.Ytkanpcdjhaepjaa
open Go.RowKit

theorem rvalid_is {A1 A2 : Option Addr} {c1 c2 : Nat} {sg mt : List Int} {L : Int} {w : World} (S : Nat → Prop) (r : Bool) (hx : RI w S A1 sg) (hy : RI w S A2 mt) (hS : ∀ b, S b → b < w.heap.size) (hm1 : sg.length ≤ maxLen) (hm2 : mt.length ≤ maxLen) (hr : decide (IsD sg mt L) = r) :
    Calls Try.prog 13 #[.agg #[.slice A1 sg.length c1, .slice A2 mt.length c2, .int .i64 L]] w fun e w' => e = .returned (.bool r) ∧ Below w.heap.size w w' := by
  subst hr
  exact rvalid_any A1 A2 c1 c2 sg mt L w S hx hy hS hm1 hm2

set_option maxHeartbeats 400000 in
theorem turn_wide {a b : Int} (h k : Nat) (w : World) (ha : a = h) (hh : h ≤ 1099511627779) (hk : (b % 4).toNat = k) :
    Calls Try.prog 14 #[.int .i64 a, .int .i64 b] w fun e w' => e = .returned (.int .i64 (turnN h k)) ∧ w = w' := by
  subst ha hk
  have hE := Lib.hid (turn_eq h b)
  have ht := tmod4_bd b
  go_enter Try.func14, Try.ntmps14
  go_wp2
  go_ret
  exact ⟨ret_int (by have := hE.out; omega), rfl⟩

theorem great_yes (A1 A2 : Option Addr) (c1 c2 : Nat) (sg mt : List Int) (L : Int) (w : World) (h : 70 < sg.length ∨ 300 < mt.length) :
    Calls Try.prog 12 #[.agg #[.slice A1 sg.length c1, .slice A2 mt.length c2, .int .i64 L]] w fun e w' => e = .returned (.int .i64 1) ∧ Below w.heap.size w w' := by
  have hb := Lib.hid ((Below.refl w.heap.size w).alloc (Nat.le_refl _) (.cells #[.slice A1 sg.length c1, .slice A2 mt.length c2, .int .i64 L] 24))
  by_cases h1 : (70 : Int) < sg.length
  · clear h
    go_enter Try.func12, Try.ntmps12
    go_wp2_with fail
    go_ret
    exact ⟨rfl, hb.out⟩
  · have h2 : (300 : Int) < mt.length := by omega
    clear h
    go_enter Try.func12, Try.ntmps12
    go_wp2_with fail
    go_ret
    exact ⟨rfl, hb.out⟩
theorem great_no (A1 A2 : Option Addr) (c1 c2 : Nat) (sg mt : List Int) (L : Int) (w : World) (h1 : ¬ 70 < sg.length) (h2 : ¬ 300 < mt.length) :
    Calls Try.prog 12 #[.agg #[.slice A1 sg.length c1, .slice A2 mt.length c2, .int .i64 L]] w fun e w' => e = .returned (.int .i64 0) ∧ Below w.heap.size w w' := by
  have hb := Lib.hid ((Below.refl w.heap.size w).alloc (Nat.le_refl _) (.cells #[.slice A1 sg.length c1, .slice A2 mt.length c2, .int .i64 L] 24))
  have g1 : ¬ (70 : Int) < sg.length := by omega
  have g2 : ¬ (300 : Int) < mt.length := by omega
  clear h1 h2
  go_enter Try.func12, Try.ntmps12
  go_wp2_with fail
  go_ret
  exact ⟨rfl, hb.out⟩

section
variable (A1 A2 : Option Addr) (c1 c2 : Nat) (sg mt : List Int) (L : Int) (w : World) (S : Nat → Prop) (hx : RI w S A1 sg) (hy : RI w S A2 mt) (hS : ∀ b, S b → b < w.heap.size)
include hx hy hS
theorem dout_no (h : Int) (hm1 : sg.length ≤ maxLen) (hm2 : mt.length ≤ maxLen) (hno : h < 0 ∨ (mt.length : Int) ≤ h ∨ ¬ IsD sg mt L) :
    Calls Try.prog 17 #[.agg #[.slice A1 sg.length c1, .slice A2 mt.length c2, .int .i64 L], .int .i64 h] w fun e w' => e = .returned (.bool false) ∧ Below w.heap.size w w' := by
  have HD := Lib.hid (DBox.start (c1 := c1) (c2 := c2) (L := L) S hx hy hS)
  have hbx := Lib.hid ((Below.refl w.heap.size w).alloc (Nat.le_refl _) (.cells #[.slice A1 sg.length c1, .slice A2 mt.length c2, .int .i64 L] 24))
  clear hx hy hS
  by_cases h0 : h < 0
  · clear hno
    go_enter Try.func17, Try.ntmps17
    go_wp2_with fail
    go_ret
    exact ⟨rfl, hbx.out⟩
  by_cases h1 : (mt.length : Int) ≤ h
  · clear hno
    go_enter Try.func17, Try.ntmps17
    go_wp2_with fail
    go_ret
    exact ⟨rfl, hbx.out⟩
  have hd : ¬ IsD sg mt L := by
    rcases hno with h | h | h
    · exact absurd h h0
    · exact absurd h h1
    · exact h
  have H := Lib.hid (decide_eq_false hd)
  clear hno hd
  go_enter Try.func17, Try.ntmps17
  go_wp2_with fail
  refine (dvalid_is _ false HD.out.rs HD.out.rm (fun _ h => h) hm1 hm2 H.out).mono ?_
  rintro e w1 ⟨rfl, hb1⟩
  go_wp2_with fail
  go_ret
  exact ⟨rfl, below_box (by simpa using hb1)⟩
theorem dout_yes (h : Nat) (hh : h < mt.length) (hd : IsD sg mt L) :
    Calls Try.prog 17 #[.agg #[.slice A1 sg.length c1, .slice A2 mt.length c2, .int .i64 L], .int .i64 h] w fun e w' => e = .returned (.bool (outB sg h)) ∧ Below w.heap.size w w' := by
  have HD := Lib.hid (DBox.start (c1 := c1) (c2 := c2) (L := L) S hx hy hS)
  have H := Lib.hid hd
  obtain ⟨h1, h2, -⟩ := hd
  have hm1 : sg.length ≤ maxLen := by unfold maxLen; omega
  have hm2 : mt.length ≤ maxLen := by unfold maxLen; omega
  have HN := Lib.hid h2
  clear hx hy hS h2
  go_enter Try.func17, Try.ntmps17
  go_wp2_with fail
  refine (dvalid_is _ true HD.out.rs HD.out.rm (fun _ h => h) hm1 hm2 (decide_eq_true H.out)).mono ?_
  rintro e w1 ⟨rfl, hb1⟩
  have HD1 := Lib.hid (HD.out.below hb1)
  have k0 := HD1.out.c0
  have k1 := HD1.out.c1
  have k2 := HD1.out.c2
  have HB1 := Lib.hid (below_box (o := .cells #[.slice A1 sg.length c1, .slice A2 mt.length c2, .int .i64 L] 24) (by simpa using hb1))
  have hs1 := HB1.out.size
  clear hb1 HD
  go_wp2_with fail
  refine (outgoing_any A1 A2 c1 c2 mt.length sg L _ h _ (· < w1.heap.size) HD1.out.rs (fun _ h => h) (by omega) rfl (by have := HN.out; omega)).mono ?_
  rintro e w2 ⟨rfl, hb2⟩
  have HB2 := Lib.hid (HB1.out.trans (hb2.mono hs1))
  clear hb2 k0 k1 k2
  go_wp2_with fail
  go_ret
  exact ⟨rfl, HB2.out⟩
end
end Go.Proofs.Ytkanpcdjhaepjaa
