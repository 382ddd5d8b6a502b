/-
  The law MatchingArc, walked. (Printed by wip/gen_arc.py.)
-/
import Derived.Test.YtmmcpahaekpknaaRefArc
import Derived.Test.YtmmcpahaekpknaaRefJoin
import Derived.Test.YtmmcpahaekpknaaArc
import Derived.Test.YtmmcpahaekpknaaRefValid
import Derived.Test.YtmmcpahaekpknaaArg
namespace Go.Proofs.Ytmmcpahaekpknaa
open Go.RowKit

theorem refv_is {A : Option Addr} {c : Nat} {xs : List Int} {w : World} (S : Nat → Prop) (r : Bool) (hx : RI w S A xs) (hm : xs.length ≤ maxLen) (hr : decide (IsM xs) = r) :
    Calls Try.prog 13 #[.slice A xs.length c] w fun e w' => e = .returned (.bool r) ∧ ∃ n, w' = w.drewN n := by
  subst hr
  exact refvalid_any A c xs w S hx hm

theorem own_nil (W : World) : OI (W.alloc (.cells #[] 3)) W.heap.size (.slice (some ⟨W.heap.size, 0, none⟩) 0 0) [] := by
  have := OR.made (e := 3) (f := Value.int .i64) (xs := []) W W.heap.size #[] (Nat.le_refl _) (by simp) (by simp)
  simpa using this

set_option maxRecDepth 100000 in
set_option maxHeartbeats 4000000 in
theorem marc_arg (A : Option Addr) (c : Nat) (xs : List Int) (n : Int) (w : World) (hx : RI w (· < w.heap.size) A xs) (h60 : xs.length ≤ 60) (h : ¬ IsM xs) :
    Calls Try.prog 7 #[.slice A xs.length c, .int .i64 n] w fun e w' => e = .returned (.bool true) ∧ Below w.heap.size w w' := by
  have H1 := Lib.hid h
  have HR := Lib.hid (decide_eq_false h)
  clear h
  have hm : xs.length ≤ maxLen := by unfold maxLen; omega
  go_enter Try.func7, Try.ntmps7
  go_wp2_with fail
  refine (awake_any _).mono ?_
  rintro e w1 ⟨rfl, hb1⟩
  have hs1 := hb1.size
  go_wp2_with (at_builtin; refine appN (xs := []) (ys := xs) (own_nil w1) (((hx.below hb1).below ((Below.refl _ _).alloc hs1 _))) (by simp; omega) (by simp) rfl rfl Try.underlying22 rfl rfl ?_
               intro v2 w2 ho hg hob
               have hoo : OI w2 w1.heap.size v2 xs := by simpa using ho
               have hbb : Below w1.heap.size w1 w2 := ((Below.refl w1.heap.size w1).alloc (Nat.le_refl _) (.cells #[] 3)).grown hg (by simp) (by intro k hk; simp [Value.ownBlock] at hk; omega)
               obtain ⟨Aw, cw, rfl, -, -, rw2⟩ := hoo.reads
               have hs2 := hbb.size
               have hb : Below w.heap.size w w2 := hb1.trans (hbb.mono hs1)
               have x2 : RI w2 (· < w2.heap.size) A xs := (hx.below hb).imp fun b hb => by omega
               have y2 : RI w2 (· < w2.heap.size) Aw xs := rw2.imp fun b hb => hb.2
               clear ho hg hob hoo hbb rw2 hx hb1)
  go_wp2_with fail
  refine (arc_arg A c xs n _ x2 hm H1.out).mono ?_
  rintro e w3 ⟨rfl, hc3⟩
  have hs3 := hc3.size
  have x3 : RI w3 (· < w3.heap.size) A xs := (x2.below hc3).imp fun b hb => by omega
  have y3 : RI w3 (· < w3.heap.size) Aw xs := (y2.below hc3).imp fun b hb => by omega
  have hb3 := hb.trans (hc3.mono (by omega))
  clear hc3 hb x2 y2
  go_wp2_with fail
  refine (join_arg A c xs n _ x3 hm H1.out).mono ?_
  rintro e w4 ⟨rfl, hc4⟩
  have hs4 := hc4.size
  have x4 : RI w4 (· < w4.heap.size) A xs := (x3.below hc4).imp fun b hb => by omega
  have y4 : RI w4 (· < w4.heap.size) Aw xs := (y3.below hc4).imp fun b hb => by omega
  have hb4 := hb3.trans (hc4.mono (by omega))
  clear hc4 hb3 x3 y3
  go_wp2_with fail
  refine (ints_is (· < w4.heap.size) (· < w4.heap.size) true x4 y4 rfl rfl hm hm (by simp)).mono ?_
  rintro e w5 ⟨rfl, n5, hw5⟩
  have x5 : RI w5 (· < w5.heap.size) A xs := by rw [hw5]; exact x4
  have hb5 : Below w.heap.size w w5 := by rw [hw5]; exact below_drewN hb4 _
  have hs5 := hb5.size
  clear hw5 hb4 x4 y4
  go_wp2_with fail
  refine (refv_is (· < w5.heap.size) false x5 hm HR.out).mono ?_
  rintro e w6 ⟨rfl, n6, hw6⟩
  have hb6 : Below w.heap.size w w6 := by rw [hw6]; exact below_drewN hb5 _
  have hs6 := hb6.size
  clear hw6 hb5 x5
  go_wp2_with fail
  go_ret
  exact ⟨rfl, hb6⟩

set_option maxRecDepth 100000 in
set_option maxHeartbeats 4000000 in
theorem marc_range (A : Option Addr) (c : Nat) (xs : List Int) (n : Int) (w : World) (hx : RI w (· < w.heap.size) A xs) (h60 : xs.length ≤ 60) (h : IsM xs) (hp : n < 0 ∨ (xs.length : Int) < n) :
    Calls Try.prog 7 #[.slice A xs.length c, .int .i64 n] w fun e w' => e = .returned (.bool true) ∧ Below w.heap.size w w' := by
  have H1 := Lib.hid h
  have HR := Lib.hid (decide_eq_true h)
  clear h
  have hm : xs.length ≤ maxLen := by unfold maxLen; omega
  go_enter Try.func7, Try.ntmps7
  go_wp2_with fail
  refine (awake_any _).mono ?_
  rintro e w1 ⟨rfl, hb1⟩
  have hs1 := hb1.size
  go_wp2_with (at_builtin; refine appN (xs := []) (ys := xs) (own_nil w1) (((hx.below hb1).below ((Below.refl _ _).alloc hs1 _))) (by simp; omega) (by simp) rfl rfl Try.underlying22 rfl rfl ?_
               intro v2 w2 ho hg hob
               have hoo : OI w2 w1.heap.size v2 xs := by simpa using ho
               have hbb : Below w1.heap.size w1 w2 := ((Below.refl w1.heap.size w1).alloc (Nat.le_refl _) (.cells #[] 3)).grown hg (by simp) (by intro k hk; simp [Value.ownBlock] at hk; omega)
               obtain ⟨Aw, cw, rfl, -, -, rw2⟩ := hoo.reads
               have hs2 := hbb.size
               have hb : Below w.heap.size w w2 := hb1.trans (hbb.mono hs1)
               have x2 : RI w2 (· < w2.heap.size) A xs := (hx.below hb).imp fun b hb => by omega
               have y2 : RI w2 (· < w2.heap.size) Aw xs := rw2.imp fun b hb => hb.2
               clear ho hg hob hoo hbb rw2 hx hb1)
  go_wp2_with fail
  refine (arc_range A c xs n _ x2 H1.out hp).mono ?_
  rintro e w3 ⟨rfl, hc3⟩
  have hs3 := hc3.size
  have x3 : RI w3 (· < w3.heap.size) A xs := (x2.below hc3).imp fun b hb => by omega
  have y3 : RI w3 (· < w3.heap.size) Aw xs := (y2.below hc3).imp fun b hb => by omega
  have hb3 := hb.trans (hc3.mono (by omega))
  clear hc3 hb x2 y2
  go_wp2_with fail
  refine (join_range A c xs n _ x3 H1.out (by omega)).mono ?_
  rintro e w4 ⟨rfl, hc4⟩
  have hs4 := hc4.size
  have x4 : RI w4 (· < w4.heap.size) A xs := (x3.below hc4).imp fun b hb => by omega
  have y4 : RI w4 (· < w4.heap.size) Aw xs := (y3.below hc4).imp fun b hb => by omega
  have hb4 := hb3.trans (hc4.mono (by omega))
  clear hc4 hb3 x3 y3
  go_wp2_with fail
  refine (ints_is (· < w4.heap.size) (· < w4.heap.size) true x4 y4 rfl rfl hm hm (by simp)).mono ?_
  rintro e w5 ⟨rfl, n5, hw5⟩
  have x5 : RI w5 (· < w5.heap.size) A xs := by rw [hw5]; exact x4
  have hb5 : Below w.heap.size w w5 := by rw [hw5]; exact below_drewN hb4 _
  have hs5 := hb5.size
  clear hw5 hb4 x4 y4
  go_wp2_with fail
  refine (refv_is (· < w5.heap.size) true x5 hm HR.out).mono ?_
  rintro e w6 ⟨rfl, n6, hw6⟩
  have hb6 : Below w.heap.size w w6 := by rw [hw6]; exact below_drewN hb5 _
  have hs6 := hb6.size
  clear hw6 hb5 x5
  by_cases h0 : n < 0
  · clear hp
    go_wp2_with fail
    go_ret
    exact ⟨rfl, hb6⟩
  · have hp : (xs.length : Int) < n := by omega
    go_wp2_with fail
    go_ret
    exact ⟨rfl, hb6⟩

set_option maxRecDepth 100000 in
set_option maxHeartbeats 4000000 in
theorem marc_full_last (A : Option Addr) (c : Nat) (xs : List Int) (p : Nat) (w : World) (hx : RI w (· < w.heap.size) A xs) (h60 : xs.length ≤ 60) (h : IsM xs) (hp : p ≤ xs.length) (hl : xs.length = 48) (hq : (xs.length : Int) - 2 < p) :
    Calls Try.prog 7 #[.slice A xs.length c, .int .i64 p] w fun e w' => e = .returned (.bool true) ∧ Below w.heap.size w w' := by
  have H1 := Lib.hid h
  have HR := Lib.hid (decide_eq_true h)
  have HL := Lib.hid hl
  have e1 : ((xs.length : Int) == 48) = true := by rw [beq_iff_eq]; omega
  have i0 : ¬ (p : Int) < 0 := by omega
  have i1 : ¬ (xs.length : Int) < p := by omega
  have hal := arcL_length xs p
  have hjl := joinL_length xs p
  have hma : (arcL xs p).length ≤ maxLen := by unfold maxLen; omega
  have hmj : (joinL xs p).length ≤ maxLen := by unfold maxLen; omega
  have h48 : xs.length ≤ 48 := h.2.1
  have i2 : (xs.length : Int) - 2 < p := by omega
  have HAL := Lib.hid hal
  have HJL := Lib.hid hjl
  clear h hl hal hjl
  have hm : xs.length ≤ maxLen := by unfold maxLen; omega
  go_enter Try.func7, Try.ntmps7
  go_wp2_with fail
  refine (awake_any _).mono ?_
  rintro e w1 ⟨rfl, hb1⟩
  have hs1 := hb1.size
  go_wp2_with (at_builtin; refine appN (xs := []) (ys := xs) (own_nil w1) (((hx.below hb1).below ((Below.refl _ _).alloc hs1 _))) (by simp; omega) (by simp) rfl rfl Try.underlying22 rfl rfl ?_
               intro v2 w2 ho hg hob
               have hoo : OI w2 w1.heap.size v2 xs := by simpa using ho
               have hbb : Below w1.heap.size w1 w2 := ((Below.refl w1.heap.size w1).alloc (Nat.le_refl _) (.cells #[] 3)).grown hg (by simp) (by intro k hk; simp [Value.ownBlock] at hk; omega)
               obtain ⟨Aw, cw, rfl, -, -, rw2⟩ := hoo.reads
               have hs2 := hbb.size
               have hb : Below w.heap.size w w2 := hb1.trans (hbb.mono hs1)
               have x2 : RI w2 (· < w2.heap.size) A xs := (hx.below hb).imp fun b hb => by omega
               have y2 : RI w2 (· < w2.heap.size) Aw xs := rw2.imp fun b hb => hb.2
               clear ho hg hob hoo hbb rw2 hx hb1)
  go_wp2_with fail
  refine (arc_full A c xs p _ x2 H1.out (by omega) (by omega) HL.out).mono ?_
  rintro e w3 ⟨rfl, hc3⟩
  have hs3 := hc3.size
  have x3 : RI w3 (· < w3.heap.size) A xs := (x2.below hc3).imp fun b hb => by omega
  have y3 : RI w3 (· < w3.heap.size) Aw xs := (y2.below hc3).imp fun b hb => by omega
  have hb3 := hb.trans (hc3.mono (by omega))
  clear hc3 hb x2 y2
  go_wp2_with fail
  refine (join_range A c xs p _ x3 H1.out (by omega)).mono ?_
  rintro e w4 ⟨rfl, hc4⟩
  have hs4 := hc4.size
  have x4 : RI w4 (· < w4.heap.size) A xs := (x3.below hc4).imp fun b hb => by omega
  have y4 : RI w4 (· < w4.heap.size) Aw xs := (y3.below hc4).imp fun b hb => by omega
  have hb4 := hb3.trans (hc4.mono (by omega))
  clear hc4 hb3 x3 y3
  go_wp2_with fail
  refine (ints_is (· < w4.heap.size) (· < w4.heap.size) true x4 y4 rfl rfl hm hm (by simp)).mono ?_
  rintro e w5 ⟨rfl, n5, hw5⟩
  have x5 : RI w5 (· < w5.heap.size) A xs := by rw [hw5]; exact x4
  have hb5 : Below w.heap.size w w5 := by rw [hw5]; exact below_drewN hb4 _
  have hs5 := hb5.size
  clear hw5 hb4 y4 x4
  go_wp2_with fail
  refine (refv_is (· < w5.heap.size) true x5 hm HR.out).mono ?_
  rintro e w6 ⟨rfl, n6, hw6⟩
  have x6 : RI w6 (· < w6.heap.size) A xs := by rw [hw6]; exact x5
  have hb6 : Below w.heap.size w w6 := by rw [hw6]; exact below_drewN hb5 _
  have hs6 := hb6.size
  clear hw6 hb5 x5
  go_wp2_with fail
  go_ret
  exact ⟨rfl, hb6⟩

set_option maxRecDepth 100000 in
set_option maxHeartbeats 4000000 in
theorem marc_full_in (A : Option Addr) (c : Nat) (xs : List Int) (p : Nat) (w : World) (hx : RI w (· < w.heap.size) A xs) (h60 : xs.length ≤ 60) (h : IsM xs) (hp : p ≤ xs.length) (hl : xs.length = 48) (hq : p + 2 ≤ xs.length) :
    Calls Try.prog 7 #[.slice A xs.length c, .int .i64 p] w fun e w' => e = .returned (.bool true) ∧ Below w.heap.size w w' := by
  have H1 := Lib.hid h
  have HR := Lib.hid (decide_eq_true h)
  have HL := Lib.hid hl
  have e1 : ((xs.length : Int) == 48) = true := by rw [beq_iff_eq]; omega
  have i0 : ¬ (p : Int) < 0 := by omega
  have i1 : ¬ (xs.length : Int) < p := by omega
  have hal := arcL_length xs p
  have hjl := joinL_length xs p
  have hma : (arcL xs p).length ≤ maxLen := by unfold maxLen; omega
  have hmj : (joinL xs p).length ≤ maxLen := by unfold maxLen; omega
  have h48 : xs.length ≤ 48 := h.2.1
  have i2 : ¬ (xs.length : Int) - 2 < p := by omega
  have HAL := Lib.hid hal
  have HJL := Lib.hid hjl
  clear h hl hal hjl
  have hm : xs.length ≤ maxLen := by unfold maxLen; omega
  go_enter Try.func7, Try.ntmps7
  go_wp2_with fail
  refine (awake_any _).mono ?_
  rintro e w1 ⟨rfl, hb1⟩
  have hs1 := hb1.size
  go_wp2_with (at_builtin; refine appN (xs := []) (ys := xs) (own_nil w1) (((hx.below hb1).below ((Below.refl _ _).alloc hs1 _))) (by simp; omega) (by simp) rfl rfl Try.underlying22 rfl rfl ?_
               intro v2 w2 ho hg hob
               have hoo : OI w2 w1.heap.size v2 xs := by simpa using ho
               have hbb : Below w1.heap.size w1 w2 := ((Below.refl w1.heap.size w1).alloc (Nat.le_refl _) (.cells #[] 3)).grown hg (by simp) (by intro k hk; simp [Value.ownBlock] at hk; omega)
               obtain ⟨Aw, cw, rfl, -, -, rw2⟩ := hoo.reads
               have hs2 := hbb.size
               have hb : Below w.heap.size w w2 := hb1.trans (hbb.mono hs1)
               have x2 : RI w2 (· < w2.heap.size) A xs := (hx.below hb).imp fun b hb => by omega
               have y2 : RI w2 (· < w2.heap.size) Aw xs := rw2.imp fun b hb => hb.2
               clear ho hg hob hoo hbb rw2 hx hb1)
  go_wp2_with fail
  refine (arc_full A c xs p _ x2 H1.out (by omega) (by omega) HL.out).mono ?_
  rintro e w3 ⟨rfl, hc3⟩
  have hs3 := hc3.size
  have x3 : RI w3 (· < w3.heap.size) A xs := (x2.below hc3).imp fun b hb => by omega
  have y3 : RI w3 (· < w3.heap.size) Aw xs := (y2.below hc3).imp fun b hb => by omega
  have hb3 := hb.trans (hc3.mono (by omega))
  clear hc3 hb x2 y2
  go_wp2_with fail
  refine (join_ok A c xs p _ x3 H1.out hq).mono ?_
  rintro e w4 ⟨vj, rfl, oj, hc4⟩
  have hs4 := hc4.size
  have x4 : RI w4 (· < w4.heap.size) A xs := (x3.below hc4).imp fun b hb => by omega
  have y4 : RI w4 (· < w4.heap.size) Aw xs := (y3.below hc4).imp fun b hb => by omega
  obtain ⟨A4, c4, rfl, -, -, rj⟩ := oj.reads
  have j4 : RI w4 (· < w4.heap.size) A4 (joinL xs p) := rj.imp fun b hb => hb.2
  clear oj rj
  have hb4 := hb3.trans (hc4.mono (by omega))
  clear hc4 hb3 x3 y3
  go_wp2_with fail
  refine (ints_is (· < w4.heap.size) (· < w4.heap.size) true x4 y4 rfl rfl hm hm (by simp)).mono ?_
  rintro e w5 ⟨rfl, n5, hw5⟩
  have x5 : RI w5 (· < w5.heap.size) A xs := by rw [hw5]; exact x4
  have j5 : RI w5 (· < w5.heap.size) A4 (joinL xs p) := by rw [hw5]; exact j4
  have hb5 : Below w.heap.size w w5 := by rw [hw5]; exact below_drewN hb4 _
  have hs5 := hb5.size
  clear hw5 hb4 y4 x4 j4
  go_wp2_with fail
  refine (refv_is (· < w5.heap.size) true x5 hm HR.out).mono ?_
  rintro e w6 ⟨rfl, n6, hw6⟩
  have x6 : RI w6 (· < w6.heap.size) A xs := by rw [hw6]; exact x5
  have j6 : RI w6 (· < w6.heap.size) A4 (joinL xs p) := by rw [hw6]; exact j5
  have hb6 : Below w.heap.size w w6 := by rw [hw6]; exact below_drewN hb5 _
  have hs6 := hb6.size
  clear hw6 hb5 x5 j5
  go_wp2_with fail
  refine (refjoin_ok A c xs p _ x6 H1.out hq).mono ?_
  rintro e w7 ⟨vs, rfl, os, hc7⟩
  have hs7 := hc7.size
  have x7 : RI w7 (· < w7.heap.size) A xs := (x6.below hc7).imp fun b hb => by omega
  have j7 : RI w7 (· < w7.heap.size) A4 (joinL xs p) := (j6.below hc7).imp fun b hb => by omega
  obtain ⟨A9, c9, rfl, -, -, rs⟩ := os.reads
  have d7 : RI w7 (· < w7.heap.size) A9 (joinL xs p) := rs.imp fun b hb => hb.2
  clear os rs
  have hb7 := hb6.trans (hc7.mono (by omega))
  clear hc7 hb6 x6 j6
  go_wp2_with fail
  refine (ints_is (· < w7.heap.size) (· < w7.heap.size) true j7 d7 rfl rfl hmj hmj (by simp)).mono ?_
  rintro e w8 ⟨rfl, n8, hw8⟩
  have hb8 : Below w.heap.size w w8 := by rw [hw8]; exact below_drewN hb7 _
  have hs8 := hb8.size
  clear hw8 hb7 j7 d7
  go_wp2_with fail
  go_ret
  exact ⟨rfl, hb8⟩

set_option maxRecDepth 100000 in
set_option maxHeartbeats 4000000 in
theorem marc_ok_last (A : Option Addr) (c : Nat) (xs : List Int) (p : Nat) (w : World) (hx : RI w (· < w.heap.size) A xs) (h60 : xs.length ≤ 60) (h : IsM xs) (hp : p ≤ xs.length) (hl : xs.length ≠ 48) (hq : (xs.length : Int) - 2 < p) :
    Calls Try.prog 7 #[.slice A xs.length c, .int .i64 p] w fun e w' => e = .returned (.bool true) ∧ Below w.heap.size w w' := by
  have H1 := Lib.hid h
  have HR := Lib.hid (decide_eq_true h)
  have HL := Lib.hid hl
  have e1 : ((xs.length : Int) == 48) = false := by rw [beq_eq_false_iff_ne]; omega
  have i0 : ¬ (p : Int) < 0 := by omega
  have i1 : ¬ (xs.length : Int) < p := by omega
  have hal := arcL_length xs p
  have hjl := joinL_length xs p
  have hma : (arcL xs p).length ≤ maxLen := by unfold maxLen; omega
  have hmj : (joinL xs p).length ≤ maxLen := by unfold maxLen; omega
  have h48 : xs.length ≤ 48 := h.2.1
  have i2 : (xs.length : Int) - 2 < p := by omega
  have HAL := Lib.hid hal
  have HJL := Lib.hid hjl
  clear h hl hal hjl
  have hm : xs.length ≤ maxLen := by unfold maxLen; omega
  go_enter Try.func7, Try.ntmps7
  go_wp2_with fail
  refine (awake_any _).mono ?_
  rintro e w1 ⟨rfl, hb1⟩
  have hs1 := hb1.size
  go_wp2_with (at_builtin; refine appN (xs := []) (ys := xs) (own_nil w1) (((hx.below hb1).below ((Below.refl _ _).alloc hs1 _))) (by simp; omega) (by simp) rfl rfl Try.underlying22 rfl rfl ?_
               intro v2 w2 ho hg hob
               have hoo : OI w2 w1.heap.size v2 xs := by simpa using ho
               have hbb : Below w1.heap.size w1 w2 := ((Below.refl w1.heap.size w1).alloc (Nat.le_refl _) (.cells #[] 3)).grown hg (by simp) (by intro k hk; simp [Value.ownBlock] at hk; omega)
               obtain ⟨Aw, cw, rfl, -, -, rw2⟩ := hoo.reads
               have hs2 := hbb.size
               have hb : Below w.heap.size w w2 := hb1.trans (hbb.mono hs1)
               have x2 : RI w2 (· < w2.heap.size) A xs := (hx.below hb).imp fun b hb => by omega
               have y2 : RI w2 (· < w2.heap.size) Aw xs := rw2.imp fun b hb => hb.2
               clear ho hg hob hoo hbb rw2 hx hb1)
  go_wp2_with fail
  refine (arc_ok A c xs p _ x2 H1.out hp HL.out).mono ?_
  rintro e w3 ⟨va, rfl, oa, hc3⟩
  have hs3 := hc3.size
  have x3 : RI w3 (· < w3.heap.size) A xs := (x2.below hc3).imp fun b hb => by omega
  have y3 : RI w3 (· < w3.heap.size) Aw xs := (y2.below hc3).imp fun b hb => by omega
  obtain ⟨A3, c3, rfl, -, -, ra⟩ := oa.reads
  have a3 : RI w3 (· < w3.heap.size) A3 (arcL xs p) := ra.imp fun b hb => hb.2
  clear oa ra
  have hb3 := hb.trans (hc3.mono (by omega))
  clear hc3 hb x2 y2
  go_wp2_with fail
  refine (join_range A c xs p _ x3 H1.out (by omega)).mono ?_
  rintro e w4 ⟨rfl, hc4⟩
  have hs4 := hc4.size
  have x4 : RI w4 (· < w4.heap.size) A xs := (x3.below hc4).imp fun b hb => by omega
  have y4 : RI w4 (· < w4.heap.size) Aw xs := (y3.below hc4).imp fun b hb => by omega
  have a4 : RI w4 (· < w4.heap.size) A3 (arcL xs p) := (a3.below hc4).imp fun b hb => by omega
  have hb4 := hb3.trans (hc4.mono (by omega))
  clear hc4 hb3 x3 y3 a3
  go_wp2_with fail
  refine (ints_is (· < w4.heap.size) (· < w4.heap.size) true x4 y4 rfl rfl hm hm (by simp)).mono ?_
  rintro e w5 ⟨rfl, n5, hw5⟩
  have x5 : RI w5 (· < w5.heap.size) A xs := by rw [hw5]; exact x4
  have a5 : RI w5 (· < w5.heap.size) A3 (arcL xs p) := by rw [hw5]; exact a4
  have hb5 : Below w.heap.size w w5 := by rw [hw5]; exact below_drewN hb4 _
  have hs5 := hb5.size
  clear hw5 hb4 y4 x4 a4
  go_wp2_with fail
  refine (refv_is (· < w5.heap.size) true x5 hm HR.out).mono ?_
  rintro e w6 ⟨rfl, n6, hw6⟩
  have x6 : RI w6 (· < w6.heap.size) A xs := by rw [hw6]; exact x5
  have a6 : RI w6 (· < w6.heap.size) A3 (arcL xs p) := by rw [hw6]; exact a5
  have hb6 : Below w.heap.size w w6 := by rw [hw6]; exact below_drewN hb5 _
  have hs6 := hb6.size
  clear hw6 hb5 x5 a5
  go_wp2_with fail
  refine (refarc_ok A c xs p _ x6 H1.out hp).mono ?_
  rintro e w7 ⟨vr, rfl, or, hc7⟩
  have hs7 := hc7.size
  have x7 : RI w7 (· < w7.heap.size) A xs := (x6.below hc7).imp fun b hb => by omega
  have a7 : RI w7 (· < w7.heap.size) A3 (arcL xs p) := (a6.below hc7).imp fun b hb => by omega
  obtain ⟨A7, c7, rfl, -, -, rr⟩ := or.reads
  have b7 : RI w7 (· < w7.heap.size) A7 (arcL xs p) := rr.imp fun b hb => hb.2
  clear or rr
  have hb7 := hb6.trans (hc7.mono (by omega))
  clear hc7 hb6 x6 a6
  go_wp2_with fail
  refine (ints_is (· < w7.heap.size) (· < w7.heap.size) true a7 b7 rfl rfl hma hma (by simp)).mono ?_
  rintro e w8 ⟨rfl, n8, hw8⟩
  have x8 : RI w8 (· < w8.heap.size) A xs := by rw [hw8]; exact x7
  have hb8 : Below w.heap.size w w8 := by rw [hw8]; exact below_drewN hb7 _
  have hs8 := hb8.size
  clear hw8 hb7 a7 b7 x7
  go_wp2_with fail
  go_ret
  exact ⟨rfl, hb8⟩

set_option maxRecDepth 100000 in
set_option maxHeartbeats 4000000 in
theorem marc_ok_in (A : Option Addr) (c : Nat) (xs : List Int) (p : Nat) (w : World) (hx : RI w (· < w.heap.size) A xs) (h60 : xs.length ≤ 60) (h : IsM xs) (hp : p ≤ xs.length) (hl : xs.length ≠ 48) (hq : p + 2 ≤ xs.length) :
    Calls Try.prog 7 #[.slice A xs.length c, .int .i64 p] w fun e w' => e = .returned (.bool true) ∧ Below w.heap.size w w' := by
  have H1 := Lib.hid h
  have HR := Lib.hid (decide_eq_true h)
  have HL := Lib.hid hl
  have e1 : ((xs.length : Int) == 48) = false := by rw [beq_eq_false_iff_ne]; omega
  have i0 : ¬ (p : Int) < 0 := by omega
  have i1 : ¬ (xs.length : Int) < p := by omega
  have hal := arcL_length xs p
  have hjl := joinL_length xs p
  have hma : (arcL xs p).length ≤ maxLen := by unfold maxLen; omega
  have hmj : (joinL xs p).length ≤ maxLen := by unfold maxLen; omega
  have h48 : xs.length ≤ 48 := h.2.1
  have i2 : ¬ (xs.length : Int) - 2 < p := by omega
  have HAL := Lib.hid hal
  have HJL := Lib.hid hjl
  clear h hl hal hjl
  have hm : xs.length ≤ maxLen := by unfold maxLen; omega
  go_enter Try.func7, Try.ntmps7
  go_wp2_with fail
  refine (awake_any _).mono ?_
  rintro e w1 ⟨rfl, hb1⟩
  have hs1 := hb1.size
  go_wp2_with (at_builtin; refine appN (xs := []) (ys := xs) (own_nil w1) (((hx.below hb1).below ((Below.refl _ _).alloc hs1 _))) (by simp; omega) (by simp) rfl rfl Try.underlying22 rfl rfl ?_
               intro v2 w2 ho hg hob
               have hoo : OI w2 w1.heap.size v2 xs := by simpa using ho
               have hbb : Below w1.heap.size w1 w2 := ((Below.refl w1.heap.size w1).alloc (Nat.le_refl _) (.cells #[] 3)).grown hg (by simp) (by intro k hk; simp [Value.ownBlock] at hk; omega)
               obtain ⟨Aw, cw, rfl, -, -, rw2⟩ := hoo.reads
               have hs2 := hbb.size
               have hb : Below w.heap.size w w2 := hb1.trans (hbb.mono hs1)
               have x2 : RI w2 (· < w2.heap.size) A xs := (hx.below hb).imp fun b hb => by omega
               have y2 : RI w2 (· < w2.heap.size) Aw xs := rw2.imp fun b hb => hb.2
               clear ho hg hob hoo hbb rw2 hx hb1)
  go_wp2_with fail
  refine (arc_ok A c xs p _ x2 H1.out hp HL.out).mono ?_
  rintro e w3 ⟨va, rfl, oa, hc3⟩
  have hs3 := hc3.size
  have x3 : RI w3 (· < w3.heap.size) A xs := (x2.below hc3).imp fun b hb => by omega
  have y3 : RI w3 (· < w3.heap.size) Aw xs := (y2.below hc3).imp fun b hb => by omega
  obtain ⟨A3, c3, rfl, -, -, ra⟩ := oa.reads
  have a3 : RI w3 (· < w3.heap.size) A3 (arcL xs p) := ra.imp fun b hb => hb.2
  clear oa ra
  have hb3 := hb.trans (hc3.mono (by omega))
  clear hc3 hb x2 y2
  go_wp2_with fail
  refine (join_ok A c xs p _ x3 H1.out hq).mono ?_
  rintro e w4 ⟨vj, rfl, oj, hc4⟩
  have hs4 := hc4.size
  have x4 : RI w4 (· < w4.heap.size) A xs := (x3.below hc4).imp fun b hb => by omega
  have y4 : RI w4 (· < w4.heap.size) Aw xs := (y3.below hc4).imp fun b hb => by omega
  have a4 : RI w4 (· < w4.heap.size) A3 (arcL xs p) := (a3.below hc4).imp fun b hb => by omega
  obtain ⟨A4, c4, rfl, -, -, rj⟩ := oj.reads
  have j4 : RI w4 (· < w4.heap.size) A4 (joinL xs p) := rj.imp fun b hb => hb.2
  clear oj rj
  have hb4 := hb3.trans (hc4.mono (by omega))
  clear hc4 hb3 x3 y3 a3
  go_wp2_with fail
  refine (ints_is (· < w4.heap.size) (· < w4.heap.size) true x4 y4 rfl rfl hm hm (by simp)).mono ?_
  rintro e w5 ⟨rfl, n5, hw5⟩
  have x5 : RI w5 (· < w5.heap.size) A xs := by rw [hw5]; exact x4
  have a5 : RI w5 (· < w5.heap.size) A3 (arcL xs p) := by rw [hw5]; exact a4
  have j5 : RI w5 (· < w5.heap.size) A4 (joinL xs p) := by rw [hw5]; exact j4
  have hb5 : Below w.heap.size w w5 := by rw [hw5]; exact below_drewN hb4 _
  have hs5 := hb5.size
  clear hw5 hb4 y4 x4 a4 j4
  go_wp2_with fail
  refine (refv_is (· < w5.heap.size) true x5 hm HR.out).mono ?_
  rintro e w6 ⟨rfl, n6, hw6⟩
  have x6 : RI w6 (· < w6.heap.size) A xs := by rw [hw6]; exact x5
  have a6 : RI w6 (· < w6.heap.size) A3 (arcL xs p) := by rw [hw6]; exact a5
  have j6 : RI w6 (· < w6.heap.size) A4 (joinL xs p) := by rw [hw6]; exact j5
  have hb6 : Below w.heap.size w w6 := by rw [hw6]; exact below_drewN hb5 _
  have hs6 := hb6.size
  clear hw6 hb5 x5 a5 j5
  go_wp2_with fail
  refine (refarc_ok A c xs p _ x6 H1.out hp).mono ?_
  rintro e w7 ⟨vr, rfl, or, hc7⟩
  have hs7 := hc7.size
  have x7 : RI w7 (· < w7.heap.size) A xs := (x6.below hc7).imp fun b hb => by omega
  have a7 : RI w7 (· < w7.heap.size) A3 (arcL xs p) := (a6.below hc7).imp fun b hb => by omega
  have j7 : RI w7 (· < w7.heap.size) A4 (joinL xs p) := (j6.below hc7).imp fun b hb => by omega
  obtain ⟨A7, c7, rfl, -, -, rr⟩ := or.reads
  have b7 : RI w7 (· < w7.heap.size) A7 (arcL xs p) := rr.imp fun b hb => hb.2
  clear or rr
  have hb7 := hb6.trans (hc7.mono (by omega))
  clear hc7 hb6 x6 a6 j6
  go_wp2_with fail
  refine (ints_is (· < w7.heap.size) (· < w7.heap.size) true a7 b7 rfl rfl hma hma (by simp)).mono ?_
  rintro e w8 ⟨rfl, n8, hw8⟩
  have x8 : RI w8 (· < w8.heap.size) A xs := by rw [hw8]; exact x7
  have j8 : RI w8 (· < w8.heap.size) A4 (joinL xs p) := by rw [hw8]; exact j7
  have hb8 : Below w.heap.size w w8 := by rw [hw8]; exact below_drewN hb7 _
  have hs8 := hb8.size
  clear hw8 hb7 a7 b7 x7 j7
  go_wp2_with fail
  refine (refjoin_ok A c xs p _ x8 H1.out hq).mono ?_
  rintro e w9 ⟨vs, rfl, os, hc9⟩
  have hs9 := hc9.size
  have x9 : RI w9 (· < w9.heap.size) A xs := (x8.below hc9).imp fun b hb => by omega
  have j9 : RI w9 (· < w9.heap.size) A4 (joinL xs p) := (j8.below hc9).imp fun b hb => by omega
  obtain ⟨A9, c9, rfl, -, -, rs⟩ := os.reads
  have d9 : RI w9 (· < w9.heap.size) A9 (joinL xs p) := rs.imp fun b hb => hb.2
  clear os rs
  have hb9 := hb8.trans (hc9.mono (by omega))
  clear hc9 hb8 x8 j8
  go_wp2_with fail
  refine (ints_is (· < w9.heap.size) (· < w9.heap.size) true j9 d9 rfl rfl hmj hmj (by simp)).mono ?_
  rintro e w10 ⟨rfl, n10, hw10⟩
  have hb10 : Below w.heap.size w w10 := by rw [hw10]; exact below_drewN hb9 _
  have hs10 := hb10.size
  clear hw10 hb9 j9 d9
  go_wp2_with fail
  go_ret
  exact ⟨rfl, hb10⟩

theorem matchingArc_walk (A : Option Addr) (c : Nat) (xs : List Int) (n : Int) (w : World) (hx : RI w (· < w.heap.size) A xs) (hm : xs.length ≤ maxLen) (_hw : ∀ k, -9223372036854775808 ≤ gi xs k ∧ gi xs k ≤ 9223372036854775807)
    (_hn : (Lit.int .i64 n).wf = true) :
    Calls Try.prog 7 #[.slice A xs.length c, .int .i64 n] w fun e w' => e = .returned (.bool true) ∧ Below w.heap.size w w' := by
  clear _hw
  by_cases hbig : (60 : Int) < xs.length
  · go_enter Try.func7, Try.ntmps7
    go_wp2_with fail
    refine (awake_any _).mono ?_
    rintro e w1 ⟨rfl, hb1⟩
    go_wp2_with fail
    go_ret
    exact ⟨rfl, hb1⟩
  have h60 : xs.length ≤ 60 := by omega
  by_cases h : IsM xs
  case neg => exact marc_arg A c xs n w hx h60 h
  by_cases hp : n < 0 ∨ (xs.length : Int) < n
  · exact marc_range A c xs n w hx h60 h hp
  obtain ⟨p, rfl⟩ := Int.eq_ofNat_of_zero_le (show 0 ≤ n by omega)
  have hp' : p ≤ xs.length := by omega
  by_cases hl : xs.length = 48 <;> by_cases hq : (xs.length : Int) - 2 < p
  · exact marc_full_last A c xs p w hx h60 h hp' hl hq
  · exact marc_full_in A c xs p w hx h60 h hp' hl (by omega)
  · exact marc_ok_last A c xs p w hx h60 h hp' hl hq
  · exact marc_ok_in A c xs p w hx h60 h hp' hl (by omega)
end Go.Proofs.Ytmmcpahaekpknaa
