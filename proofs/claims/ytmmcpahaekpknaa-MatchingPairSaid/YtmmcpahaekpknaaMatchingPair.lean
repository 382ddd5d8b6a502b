/-
  The law MatchingPair, walked.
-/
import Derived.Test.YtmmcpahaekpknaaAwake
import Derived.Test.YtmmcpahaekpknaaRefValid
import Derived.Test.YtmmcpahaekpknaaRefPair
import Derived.Test.YtmmcpahaekpknaaPairT
import Derived.Test.YtmmcpahaekpknaaArg
namespace Go.Proofs.Ytmmcpahaekpknaa
open Go.RowKit

theorem refvalid_is {A : Option Addr} {c : Nat} {xs : List Int} {w : World} (S : Nat → Prop) (r : Bool) (hx : RI w S A xs) (hm : xs.length ≤ maxLen) (hr : decide (IsM xs) = r) :
    Calls Try.prog 13 #[.slice A xs.length c] w fun e w' => e = .returned (.bool r) ∧ ∃ n, w' = w.drewN n := by
  subst hr
  exact refvalid_any A c xs w S hx hm

set_option maxRecDepth 100000 in
set_option maxHeartbeats 4000000 in
theorem matchingPair_walk (A : Option Addr) (c : Nat) (xs : List Int) (B : Option Addr) (d : Nat) (ys : List Int) (w : World) (hx : RI w (· < w.heap.size) A xs) (hm : xs.length ≤ maxLen) (_hw : ∀ k, -9223372036854775808 ≤ gi xs k ∧ gi xs k ≤ 9223372036854775807)
    (hy : RI w (· < w.heap.size) B ys) (hn : ys.length ≤ maxLen) (_hw' : ∀ k, -9223372036854775808 ≤ gi ys k ∧ gi ys k ≤ 9223372036854775807) :
    Calls Try.prog 5 #[.slice A xs.length c, .slice B ys.length d] w fun e w' => e = .returned (.bool true) ∧ Below w.heap.size w w' := by
  clear _hw _hw'
  by_cases hbig : (60 : Int) < xs.length
  · go_enter Try.func5, Try.ntmps5
    go_wp2_with fail
    refine (awake_any _).mono ?_
    rintro e w1 ⟨rfl, hb1⟩
    go_wp2_with fail
    go_ret
    exact ⟨rfl, hb1⟩
  by_cases hbig2 : (60 : Int) < ys.length
  · go_enter Try.func5, Try.ntmps5
    go_wp2_with fail
    refine (awake_any _).mono ?_
    rintro e w1 ⟨rfl, hb1⟩
    go_wp2_with fail
    go_ret
    exact ⟨rfl, hb1⟩
  by_cases hM : IsM xs ∧ IsM ys
  case neg =>
    have hM' : ¬ (IsM ys ∧ IsM xs) := fun h => hM ⟨h.2, h.1⟩
    obtain ⟨r, hr⟩ : ∃ r, decide (IsM xs) = r := ⟨_, rfl⟩
    have hry : r = true → decide (IsM ys) = false := fun h => decide_eq_false fun hy => hM ⟨of_decide_eq_true (hr.trans h), hy⟩
    have H1 := Lib.hid hM
    have H2 := Lib.hid hM'
    have HR := Lib.hid hr
    have HY := Lib.hid hry
    clear hM hM' hr hry
    go_enter Try.func5, Try.ntmps5
    go_wp2_with fail
    refine (awake_any _).mono ?_
    rintro e w1 ⟨rfl, hb1⟩
    have hs1 := hb1.size
    have x1 : RI w1 (· < w1.heap.size) A xs := (hx.below hb1).imp fun b hb => by omega
    have y1 : RI w1 (· < w1.heap.size) B ys := (hy.below hb1).imp fun b hb => by omega
    go_wp2_with fail
    refine (pair_arg A B c d xs ys _ x1 y1 hm hn H1.out).mono ?_
    rintro e w2 ⟨rfl, hb2⟩
    have hs2 := hb2.size
    have x2 : RI w2 (· < w2.heap.size) A xs := (x1.below hb2).imp fun b hb => by omega
    have y2 : RI w2 (· < w2.heap.size) B ys := (y1.below hb2).imp fun b hb => by omega
    go_wp2_with fail
    refine (pair_arg B A d c ys xs _ y2 x2 hn hm H2.out).mono ?_
    rintro e w3 ⟨rfl, hb3⟩
    have hs3 := hb3.size
    have x3 : RI w3 (· < w3.heap.size) A xs := (x2.below hb3).imp fun b hb => by omega
    have y3 : RI w3 (· < w3.heap.size) B ys := (y2.below hb3).imp fun b hb => by omega
    have hb : Below w.heap.size w w3 := (hb1.trans (hb2.mono hs1)).trans (hb3.mono (by omega))
    clear x1 y1 x2 y2 hb1 hb2 hb3 hx hy
    go_wp2_with fail
    refine (refvalid_is _ r x3 hm HR.out).mono ?_
    rintro e w4 ⟨rfl, n1, rfl⟩
    cases r
    · go_wp2_with fail
      go_ret
      exact ⟨rfl, below_drewN hb _⟩
    · go_wp2_with fail
      refine (refvalid_is (· < w3.heap.size) false (by exact y3) hn (by first | exact HY.out rfl | exact HY.out trivial)).mono ?_
      rintro e w5 ⟨rfl, n2, rfl⟩
      go_wp2_with fail
      go_ret
      refine ⟨rfl, ?_⟩
      first | exact below_drewN hb _ | exact below_drewN (below_drewN hb _) _
  case pos =>
  obtain ⟨h1, h2⟩ := hM
  have H1 := Lib.hid h1
  have H2 := Lib.hid h2
  by_cases hl : xs.length = ys.length
  case neg =>
    have hl' : ys.length ≠ xs.length := fun h => hl h.symm
    have hq : ((xs.length : Int) != ys.length) = true := by rw [bne_iff_ne]; omega
    have HL := Lib.hid hl
    have HL' := Lib.hid hl'
    clear h1 h2 hl hl'
    go_enter Try.func5, Try.ntmps5
    go_wp2_with fail
    refine (awake_any _).mono ?_
    rintro e w1 ⟨rfl, hb1⟩
    have hs1 := hb1.size
    have x1 : RI w1 (· < w1.heap.size) A xs := (hx.below hb1).imp fun b hb => by omega
    have y1 : RI w1 (· < w1.heap.size) B ys := (hy.below hb1).imp fun b hb => by omega
    go_wp2_with fail
    refine (pair_range A B c d xs ys _ x1 y1 H1.out H2.out HL.out).mono ?_
    rintro e w2 ⟨rfl, hb2⟩
    have hs2 := hb2.size
    have x2 : RI w2 (· < w2.heap.size) A xs := (x1.below hb2).imp fun b hb => by omega
    have y2 : RI w2 (· < w2.heap.size) B ys := (y1.below hb2).imp fun b hb => by omega
    go_wp2_with fail
    refine (pair_range B A d c ys xs _ y2 x2 H2.out H1.out HL'.out).mono ?_
    rintro e w3 ⟨rfl, hb3⟩
    have hs3 := hb3.size
    have x3 : RI w3 (· < w3.heap.size) A xs := (x2.below hb3).imp fun b hb => by omega
    have y3 : RI w3 (· < w3.heap.size) B ys := (y2.below hb3).imp fun b hb => by omega
    have hb : Below w.heap.size w w3 := (hb1.trans (hb2.mono hs1)).trans (hb3.mono (by omega))
    clear x1 y1 x2 y2 hb1 hb2 hb3 hx hy
    go_wp2_with fail
    refine (refvalid_is _ true x3 hm (decide_eq_true H1.out)).mono ?_
    rintro e w4 ⟨rfl, n1, rfl⟩
    go_wp2_with fail
    refine (refvalid_is (· < w3.heap.size) true (by exact y3) hn (decide_eq_true H2.out)).mono ?_
    rintro e w5 ⟨rfl, n2, rfl⟩
    go_wp2_with fail
    go_ret
    refine ⟨rfl, ?_⟩
    first | exact below_drewN hb _ | exact below_drewN (below_drewN hb _) _
  case pos =>
  have hq : ((xs.length : Int) != ys.length) = false := by rw [bne_eq_false_iff_eq]; omega
  have hown := pairN_self h1
  have e1 : ((pairN xs ys : Int) == (pairN ys xs : Int)) = true := by rw [beq_iff_eq, pairN_symm h1 h2 hl]
  have e2 : ((pairN xs xs : Int) == (xs.length : Int) / 2) = true := by rw [beq_iff_eq]; omega
  have e3 : decide (xs = ys) = ((pairN xs ys : Int) == (pairN xs xs : Int)) := by
    by_cases h : xs = ys
    · rw [decide_eq_true h, ← h]; simp
    · have := pairN_other h1 h2 hl h
      rw [decide_eq_false h]
      symm
      rw [beq_eq_false_iff_ne]
      omega
  obtain ⟨r, hr⟩ : ∃ r, decide (xs = ys) = r := ⟨_, rfl⟩
  have e4 : ((pairN xs ys : Int) == (pairN xs xs : Int)) = r := by rw [← e3, hr]
  have HR := Lib.hid hr
  have HL := Lib.hid hl
  have h48 : xs.length ≤ 48 := h1.2.1
  have hE4 := Lib.hid e4
  have hE2 := Lib.hid e2
  have hE1 := Lib.hid e1
  clear h1 h2 hl e3 hr e4 e1 e2
  go_enter Try.func5, Try.ntmps5
  go_wp2_with fail
  refine (awake_any _).mono ?_
  rintro e w1 ⟨rfl, hb1⟩
  have hs1 := hb1.size
  have x1 : RI w1 (· < w1.heap.size) A xs := (hx.below hb1).imp fun b hb => by omega
  have y1 : RI w1 (· < w1.heap.size) B ys := (hy.below hb1).imp fun b hb => by omega
  go_wp2_with fail
  refine (pair_ok A B c d xs ys _ x1 y1 H1.out H2.out HL.out).mono ?_
  rintro e w2 ⟨rfl, hb2⟩
  have hs2 := hb2.size
  have x2 : RI w2 (· < w2.heap.size) A xs := (x1.below hb2).imp fun b hb => by omega
  have y2 : RI w2 (· < w2.heap.size) B ys := (y1.below hb2).imp fun b hb => by omega
  go_wp2_with fail
  refine (pair_ok B A d c ys xs _ y2 x2 H2.out H1.out HL.out.symm).mono ?_
  rintro e w3 ⟨rfl, hb3⟩
  have hs3 := hb3.size
  have x3 : RI w3 (· < w3.heap.size) A xs := (x2.below hb3).imp fun b hb => by omega
  have y3 : RI w3 (· < w3.heap.size) B ys := (y2.below hb3).imp fun b hb => by omega
  have hb : Below w.heap.size w w3 := (hb1.trans (hb2.mono hs1)).trans (hb3.mono (by omega))
  clear x1 y1 x2 y2 hb1 hb2 hb3 hx hy
  go_wp2_with fail
  refine (refvalid_is _ true x3 hm (decide_eq_true H1.out)).mono ?_
  rintro e w4 ⟨rfl, n1, rfl⟩
  go_wp2_with fail
  refine (refvalid_is (· < w3.heap.size) true (by exact y3) hn (decide_eq_true H2.out)).mono ?_
  rintro e w5 ⟨rfl, n2, hw5⟩
  have x5 : RI w5 (· < w5.heap.size) A xs := by rw [hw5]; exact x3
  have y5 : RI w5 (· < w5.heap.size) B ys := by rw [hw5]; exact y3
  have hb5 : Below w.heap.size w w5 := by rw [hw5]; first | exact below_drewN hb _ | exact below_drewN (below_drewN hb _) _
  have hs5 := hb5.size
  clear hw5 x3 y3 hb
  go_wp2_with fail
  refine (pair_ok A A c c xs xs _ x5 x5 H1.out H1.out rfl).mono ?_
  rintro e w6 ⟨rfl, hb6⟩
  have hs6 := hb6.size
  have x6 : RI w6 (· < w6.heap.size) A xs := (x5.below hb6).imp fun b hb => by omega
  have y6 : RI w6 (· < w6.heap.size) B ys := (y5.below hb6).imp fun b hb => by omega
  have hb' : Below w.heap.size w w6 := hb5.trans (hb6.mono hs5)
  have e1 := hE1.out
  have e2 := hE2.out
  clear x5 y5 hb6 hb5
  go_wp2_with fail
  refine (refpair_ok A B c d xs ys _ x6 y6 H1.out H2.out HL.out).mono ?_
  rintro e w7 ⟨rfl, hb7⟩
  have hs7 := hb7.size
  have x7 : RI w7 (· < w7.heap.size) A xs := (x6.below hb7).imp fun b hb => by omega
  have y7 : RI w7 (· < w7.heap.size) B ys := (y6.below hb7).imp fun b hb => by omega
  have hb'' : Below w.heap.size w w7 := hb'.trans (hb7.mono (by omega))
  clear x6 y6 hb7 hb' e1
  go_wp2_with fail
  refine (ints_is (· < w7.heap.size) (· < w7.heap.size) r x7 y7 rfl rfl hm hn HR.out).mono ?_
  rintro e w8 ⟨rfl, n3, rfl⟩
  have e4 := hE4.out
  clear e2
  cases r
  all_goals
    go_wp2_with fail
    go_ret
    refine ⟨rfl, ?_⟩
    first | exact below_drewN hb'' _ | exact below_drewN (below_drewN hb'' _) _

end Go.Proofs.Ytmmcpahaekpknaa
