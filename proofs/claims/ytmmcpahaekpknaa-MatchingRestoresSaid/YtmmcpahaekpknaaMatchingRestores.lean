/-
  The law MatchingRestores, walked.
-/
import Derived.Test.YtmmcpahaekpknaaAwake
import Derived.Test.YtmmcpahaekpknaaArc
import Derived.Test.YtmmcpahaekpknaaArg
namespace Go.Proofs.Ytmmcpahaekpknaa
open Go.RowKit

set_option maxRecDepth 100000 in
set_option maxHeartbeats 4000000 in
theorem matchingRestores_walk (A : Option Addr) (c : Nat) (xs : List Int) (n : Int) (w : World) (hx : RI w (· < w.heap.size) A xs) (hm : xs.length ≤ maxLen) (_hw : ∀ k, -9223372036854775808 ≤ gi xs k ∧ gi xs k ≤ 9223372036854775807)
    (hn : (Lit.int .u8 n).wf = true) :
    Calls Try.prog 8 #[.slice A xs.length c, .int .u8 n] w fun e w' => e = .returned (.bool true) ∧ Below w.heap.size w w' := by
  have hn : 0 ≤ n ∧ n ≤ 255 := by simpa [Lit.wf, IntKind.min, IntKind.max, IntKind.signed, IntKind.bits] using hn
  clear _hw
  by_cases hbig : (46 : Int) < xs.length
  · go_enter Try.func8, Try.ntmps8
    go_wp2_with fail
    refine (awake_any _).mono ?_
    rintro e w1 ⟨rfl, hb1⟩
    go_wp2_with fail
    go_ret
    exact ⟨rfl, hb1⟩
  by_cases h1 : IsM xs
  case neg =>
    have HR := Lib.hid h1
    clear h1
    go_enter Try.func8, Try.ntmps8
    go_wp2_with fail
    refine (awake_any _).mono ?_
    rintro e w1 ⟨rfl, hb1⟩
    have hs1 := hb1.size
    go_wp2_with fail
    refine (valid_no (· < w.heap.size) (hx.below hb1) (fun _ h => by omega) hm HR.out).mono ?_
    rintro e w2 ⟨rfl, hb2⟩
    go_wp2_with fail
    go_ret
    exact ⟨rfl, hb1.trans (hb2.mono hs1)⟩
  case pos =>
  obtain ⟨m, rfl⟩ := Int.eq_ofNat_of_zero_le hn.1
  obtain ⟨p, hpm⟩ : ∃ p, m % (xs.length + 1) = p := ⟨_, rfl⟩
  have hp : p ≤ xs.length := by rw [← hpm]; have := Nat.mod_lt m (show 0 < xs.length + 1 by omega); omega
  have hpz : (m : Int) % ((xs.length : Int) + 1) = (p : Int) := by rw [← hpm]; simp
  have HP := Lib.hid hpz
  have H1 := Lib.hid h1
  clear h1 hpz hpm
  have h46 : xs.length ≤ 46 := by omega
  obtain ⟨j1, j2⟩ := join_arc H1.out hp
  have J1 := Lib.hid j1
  have J2 := Lib.hid j2
  have hal := arcL_length xs p
  have HAL := Lib.hid hal
  clear j1 j2 hal
  go_enter Try.func8, Try.ntmps8
  go_wp2_with fail
  refine (awake_any _).mono ?_
  rintro e w1 ⟨rfl, hb1⟩
  have hs1 := hb1.size
  go_wp2_with fail
  refine (valid_yes (· < w.heap.size) (hx.below hb1) (fun _ h => by omega) H1.out).mono ?_
  rintro e w2 ⟨rfl, hb2⟩
  have hb := hb1.trans (hb2.mono hs1)
  have hs2 := hb2.size
  have x2 : RI w2 (· < w2.heap.size) A xs := (hx.below hb).imp fun b hb => by omega
  clear hb1 hb2 hx
  go_wp2_with fail
  rw [HP.out]
  refine (arc_ok A c xs p _ x2 H1.out hp (by omega)).mono ?_
  rintro e w3 ⟨v3, rfl, o3, hb3⟩
  have hs3 := hb3.size
  obtain ⟨A3, c3, rfl, -, -, r3⟩ := o3.reads
  have y3 : RI w3 (· < w3.heap.size) A3 (arcL xs p) := r3.imp fun b hb => hb.2
  have x3 : RI w3 (· < w3.heap.size) A xs := (x2.below hb3).imp fun b hb => by omega
  have hb' := hb.trans (hb3.mono (by omega))
  clear hb3 o3 r3 x2 hb
  go_wp2_with fail
  refine (join_ok A3 c3 (arcL xs p) p _ y3 (arcL_isM H1.out hp h46) (by rw [HAL.out]; omega)).mono ?_
  rintro e w4 ⟨v4, rfl, o4, hb4⟩
  rw [J2.out]
  rw [J1.out] at o4
  have hs4 := hb4.size
  obtain ⟨A4, c4, rfl, -, -, r4⟩ := o4.reads
  have z4 : RI w4 (· < w4.heap.size) A4 xs := r4.imp fun b hb => hb.2
  have y4 : RI w4 (· < w4.heap.size) A3 (arcL xs p) := (y3.below hb4).imp fun b hb => by omega
  have x4 : RI w4 (· < w4.heap.size) A xs := (x3.below hb4).imp fun b hb => by omega
  have hb'' := hb'.trans (hb4.mono (by omega))
  clear hb4 o4 r4 x3 y3 hb'
  go_wp2_with fail
  refine (valid_yes (· < w4.heap.size) y4 (fun _ h => h) (arcL_isM H1.out hp h46)).mono ?_
  rintro e w5 ⟨rfl, hb5⟩
  have hs5 := hb5.size
  have z5 : RI w5 (· < w5.heap.size) A4 xs := (z4.below hb5).imp fun b hb => by omega
  have x5 : RI w5 (· < w5.heap.size) A xs := (x4.below hb5).imp fun b hb => by omega
  have hbe := hb''.trans (hb5.mono (by omega))
  clear hb5 x4 y4 z4 hb''
  go_wp2_with fail
  refine (ints_is (· < w5.heap.size) (· < w5.heap.size) true z5 x5 rfl rfl hm hm (by simp)).mono ?_
  rintro e w6 ⟨rfl, n6, hw6⟩
  have x6 : RI w6 (· < w6.heap.size) A xs := by rw [hw6]; exact x5
  have hb6 : Below w.heap.size w w6 := by rw [hw6]; exact below_drewN hbe _
  have hs6 := hb6.size
  clear hw6 x5 z5 hbe
  by_cases hlast : (xs.length : Int) - 1 ≤ p
  · go_wp2_with fail
    go_ret
    exact ⟨rfl, hb6⟩
  · have hp2 : p + 2 ≤ xs.length := by omega
    have hjl : ((joinL xs p).length : Int) = (xs.length : Int) - 2 := by rw [joinL_length]; omega
    have hjq : (((joinL xs p).length : Int) == (xs.length : Int) - 2) = true := by rw [beq_iff_eq]; exact hjl
    have HJ := Lib.hid (joinL_isM H1.out hp2)
    clear hjl
    go_wp2_with fail
    refine (join_ok A c xs p _ x6 H1.out hp2).mono ?_
    rintro e w7 ⟨v7, rfl, o7, hb7⟩
    have hs7 := hb7.size
    obtain ⟨A7, c7, rfl, -, -, r7⟩ := o7.reads
    have z7 : RI w7 (· < w7.heap.size) A7 (joinL xs p) := r7.imp fun b hb => hb.2
    have hb8 := hb6.trans (hb7.mono (by omega))
    clear hb7 o7 r7 x6 hb6
    go_wp2_with fail
    refine (valid_yes (· < w7.heap.size) z7 (fun _ h => h) HJ.out).mono ?_
    rintro e w8 ⟨rfl, hb9⟩
    go_wp2_with fail
    go_ret
    exact ⟨rfl, hb8.trans (hb9.mono (by omega))⟩
end Go.Proofs.Ytmmcpahaekpknaa
