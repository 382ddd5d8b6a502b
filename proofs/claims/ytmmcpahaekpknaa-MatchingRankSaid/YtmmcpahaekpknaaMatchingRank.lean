/-
  The law MatchingRank, walked: the call returns true and writes nothing that was there.
-/
import Derived.Test.YtmmcpahaekpknaaAwake
import Derived.Test.YtmmcpahaekpknaaRefValid
import Derived.Test.YtmmcpahaekpknaaRankF
import Derived.Test.YtmmcpahaekpknaaRefRank
import Derived.Test.YtmmcpahaekpknaaAt
import Derived.Test.YtmmcpahaekpknaaArg
namespace Go.Proofs.Ytmmcpahaekpknaa
open Go.RowKit

set_option maxHeartbeats 1000000 in
theorem matchingRank_walk (A : Option Addr) (c : Nat) (xs : List Int) (w : World) (hx : RI w (· < w.heap.size) A xs) (hm : xs.length ≤ maxLen) (_hw : ∀ k, -9223372036854775808 ≤ gi xs k ∧ gi xs k ≤ 9223372036854775807) :
    Calls Try.prog 9 #[.slice A xs.length c] w fun e w' => e = .returned (.bool true) ∧ Below w.heap.size w w' := by
  by_cases h60 : (60 : Int) < xs.length
  · go_enter Try.func9, Try.ntmps9
    go_wp2_with fail
    refine (awake_any _).mono ?_
    rintro e w1 ⟨rfl, hb1⟩
    go_wp2_with fail
    go_ret
    exact ⟨rfl, hb1⟩
  by_cases hM : IsM xs
  · have hd : decide (IsM xs) = true := decide_eq_true hM
    have h48 := hM.2.1
    have H := Lib.hid hM
    have HD := Lib.hid hd
    clear hM hd
    go_enter Try.func9, Try.ntmps9
    go_wp2_with fail
    refine (awake_any _).mono ?_
    rintro e w1 ⟨rfl, hb1⟩
    have hs1 := hb1.size
    go_wp2_with fail
    refine (rank_ok A c xs _ ((hx.below hb1).imp fun b hb => by omega) H.out).mono ?_
    rintro e w2 ⟨rfl, hb2⟩
    have hb12 := hb1.trans (hb2.mono hs1)
    have hs2 := hb12.size
    clear hb1 hb2
    go_wp2_with fail
    refine (refvalid_any A c xs _ (· < w.heap.size) (hx.below hb12) hm).mono ?_
    rintro e w3 ⟨he, n3, hw3⟩
    rw [HD.out] at he
    subst he
    have hb13 : Below w.heap.size w w3 := by rw [hw3]; exact below_drewN hb12 n3
    have hs3 := hb13.size
    clear hw3 hb12
    go_wp2_with fail
    have hlt := rk_lt _ xs H.out (Nat.lt_succ_self _)
    refine (at_ok (xs.length / 2) (rk xs) _ _ _ (by omega) rfl (by omega) hlt).mono ?_
    rintro e w4 ⟨v, rfl, ho, hb4⟩
    rw [unr_rk _ xs H.out (Nat.lt_succ_self _)] at ho
    have hb14 := hb13.trans (hb4.mono hs3)
    have hs4 := hb14.size
    obtain ⟨Av, cv, rfl, -, -, hr0⟩ := ho.reads
    have hr : RI w4 (· < w4.heap.size) Av xs := hr0.imp fun b hb => hb.2
    have HR := Lib.hid hr
    clear ho hb4 hb13 hr hr0 hlt
    go_wp2_with fail
    refine (refrank_any (xs.length + 1) A c xs _ (Nat.lt_succ_self _) ((hx.below hb14).imp fun b hb => by omega) H.out).mono ?_
    rintro e w5 ⟨rfl, hb5⟩
    have hb15 := hb14.trans (hb5.mono hs4)
    have hs5 := hb15.size
    have HR5 : Hid (RI w5 (· < w5.heap.size) Av xs) := (HR.out.below hb5).imp fun b hb => by have := hb5.size; omega
    clear hb14 hb5
    go_wp2_with fail
    refine (ints_is (· < w5.heap.size) (· < w.heap.size) true (xs := xs) (ys := xs) HR5.out (hx.below hb15) rfl rfl hm hm (by simp)).mono ?_
    rintro e w6 ⟨rfl, n6, hw6⟩
    have hb16 : Below w.heap.size w w6 := by rw [hw6]; exact below_drewN hb15 n6
    clear hw6 hb15
    go_wp2_with fail
    go_ret
    exact ⟨rfl, hb16⟩
  · have hd : decide (IsM xs) = false := decide_eq_false hM
    have H := Lib.hid hM
    have HD := Lib.hid hd
    clear hM hd
    go_enter Try.func9, Try.ntmps9
    go_wp2_with fail
    refine (awake_any _).mono ?_
    rintro e w1 ⟨rfl, hb1⟩
    have hs1 := hb1.size
    go_wp2_with fail
    refine (rank_no A c xs _ ((hx.below hb1).imp fun b hb => by omega) hm H.out).mono ?_
    rintro e w2 ⟨rfl, hb2⟩
    have hb12 := hb1.trans (hb2.mono hs1)
    have hs2 := hb12.size
    clear hb1 hb2
    go_wp2_with fail
    refine (refvalid_any A c xs _ (· < w.heap.size) (hx.below hb12) hm).mono ?_
    rintro e w3 ⟨he, n3, hw3⟩
    rw [HD.out] at he
    subst he
    have hb13 : Below w.heap.size w w3 := by rw [hw3]; exact below_drewN hb12 n3
    clear hw3 hb12
    go_wp2_with fail
    go_ret
    exact ⟨rfl, hb13⟩
end Go.Proofs.Ytmmcpahaekpknaa
