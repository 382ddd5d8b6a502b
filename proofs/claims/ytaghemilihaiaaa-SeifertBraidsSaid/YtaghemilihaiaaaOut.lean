/-
  The contracts of outgoing, and of the reference's Out.
-/
import Derived.Test.YtaghemilihaiaaaTurn
namespace Go.Proofs.Ytaghemilihaiaaa
open Go.RowKit

/-- is the half-edge h outgoing? -/
def outB (sg : List Int) (h : Nat) : Bool := if h % 4 = 1 then gi sg (h / 4) == 1 else if h % 4 = 2 then true else if h % 4 = 3 then gi sg (h / 4) == -1 else false

theorem mod_eq {h r k : Nat} (hr : h % 4 = r) (b : Bool) (hb : decide (r = k) = b) : ((h : Int) % 4 == (k : Int)) = b := by
  subst hb
  rw [Bool.eq_iff_iff, beq_iff_eq, decide_eq_true_eq]
  omega

set_option maxHeartbeats 400000 in
theorem outgoing_any (A1 A2 : Option Addr) (c1 c2 ml : Nat) (sg : List Int) (L a : Int) (h : Nat) (w : World) (S : Nat → Prop) (hx : RI w S A1 sg) (hS : ∀ b, S b → b < w.heap.size) (hm : sg.length ≤ 1099511627776) (ha : a = h) (hh : h < 4 * sg.length) :
    Calls Try.prog 45 #[.agg #[.slice A1 sg.length c1, .slice A2 ml c2, .int .i64 L], .int .i64 a] w fun e w' => e = .returned (.bool (outB sg h)) ∧ Below w.heap.size w w' := by
  subst ha
  have hb : Below w.heap.size w (w.alloc (.cells #[.slice A1 sg.length c1, .slice A2 ml c2, .int .i64 L] 24)) := (Below.refl _ _).alloc (Nat.le_refl _) _
  have HB := Lib.hid hb
  clear hb
  obtain ⟨b, off, rfl, hbs, hc⟩ := hx.at_ (k := h / 4) (by omega)
  have k1 := hc (h / 4) (by omega)
  have hbs := hS b hbs
  clear hc hx hS
  have hcase : h % 4 = 0 ∨ h % 4 = 1 ∨ h % 4 = 2 ∨ h % 4 = 3 := by omega
  rcases hcase with hr | hr | hr | hr
  · have e : outB sg h = false := by unfold outB; rw [if_neg (by omega), if_neg (by omega), if_neg (by omega)]
    have g1 := mod_eq (k := 1) hr false (by decide)
    have g2 := mod_eq (k := 2) hr false (by decide)
    have g3 := mod_eq (k := 3) hr false (by decide)
    have E := Lib.hid e
    clear e hr
    go_enter Try.func45, Try.ntmps45
    go_wp2
    go_ret
    exact ⟨ret_bool E.out.symm, HB.out⟩
  · have e : outB sg h = (gi sg (h / 4) == 1) := by unfold outB; rw [if_pos hr]
    have g1 := mod_eq (k := 1) hr true (by decide)
    have E := Lib.hid e
    clear e hr
    go_enter Try.func45, Try.ntmps45
    go_wp2
    go_ret
    exact ⟨ret_bool E.out.symm, HB.out⟩
  · have e : outB sg h = true := by unfold outB; rw [if_neg (by omega), if_pos hr]
    have g1 := mod_eq (k := 1) hr false (by decide)
    have g2 := mod_eq (k := 2) hr true (by decide)
    have E := Lib.hid e
    clear e hr
    go_enter Try.func45, Try.ntmps45
    go_wp2
    go_ret
    exact ⟨ret_bool E.out.symm, HB.out⟩
  · have e : outB sg h = (gi sg (h / 4) == -1) := by unfold outB; rw [if_neg (by omega), if_neg (by omega), if_pos hr]
    have g1 := mod_eq (k := 1) hr false (by decide)
    have g2 := mod_eq (k := 2) hr false (by decide)
    have g3 := mod_eq (k := 3) hr true (by decide)
    have E := Lib.hid e
    clear e hr
    go_enter Try.func45, Try.ntmps45
    go_wp2
    go_ret
    exact ⟨ret_bool E.out.symm, HB.out⟩

set_option maxHeartbeats 400000 in
theorem rout_any (A : Option Addr) (c : Nat) (sg : List Int) (a : Int) (h : Nat) (w : World) (S : Nat → Prop) (hx : RI w S A sg) (hm : sg.length ≤ 1099511627776) (ha : a = h) (hh : h < 4 * sg.length) :
    Calls Try.prog 34 #[.slice A sg.length c, .int .i64 a] w fun e w' => e = .returned (.bool (outB sg h)) ∧ w' = w := by
  subst ha
  obtain ⟨b, off, rfl, hbs, hc⟩ := hx.at_ (k := h / 4) (by omega)
  have k1 := hc (h / 4) (by omega)
  clear hc hx
  have hcase : h % 4 = 0 ∨ h % 4 = 1 ∨ h % 4 = 2 ∨ h % 4 = 3 := by omega
  rcases hcase with hr | hr | hr | hr
  · have e : outB sg h = false := by unfold outB; rw [if_neg (by omega), if_neg (by omega), if_neg (by omega)]
    have g1 := mod_eq (k := 1) hr false (by decide)
    have g2 := mod_eq (k := 2) hr false (by decide)
    have g3 := mod_eq (k := 3) hr false (by decide)
    have E := Lib.hid e
    clear e hr
    go_enter Try.func34, Try.ntmps34
    go_wp2
    go_ret
    exact ⟨ret_bool E.out.symm, rfl⟩
  · have e : outB sg h = (gi sg (h / 4) == 1) := by unfold outB; rw [if_pos hr]
    have g1 := mod_eq (k := 1) hr true (by decide)
    have g2 := mod_eq (k := 2) hr false (by decide)
    have E := Lib.hid e
    clear e hr
    go_enter Try.func34, Try.ntmps34
    go_wp2
    go_ret
    exact ⟨ret_bool E.out.symm, rfl⟩
  · have e : outB sg h = true := by unfold outB; rw [if_neg (by omega), if_pos hr]
    have g1 := mod_eq (k := 1) hr false (by decide)
    have g2 := mod_eq (k := 2) hr true (by decide)
    have E := Lib.hid e
    clear e hr
    go_enter Try.func34, Try.ntmps34
    go_wp2
    go_ret
    exact ⟨ret_bool E.out.symm, rfl⟩
  · have e : outB sg h = (gi sg (h / 4) == -1) := by unfold outB; rw [if_neg (by omega), if_neg (by omega), if_pos hr]
    have g1 := mod_eq (k := 1) hr false (by decide)
    have g2 := mod_eq (k := 2) hr false (by decide)
    have g3 := mod_eq (k := 3) hr true (by decide)
    have E := Lib.hid e
    clear e hr
    go_enter Try.func34, Try.ntmps34
    go_wp2
    go_ret
    exact ⟨ret_bool E.out.symm, rfl⟩
end Go.Proofs.Ytaghemilihaiaaa

