/-
  The law MatchingValid, walked: the call returns true and writes nothing that was there.
-/
import Derived.Test.YtmmcpahaekpknaaAwake
import Derived.Test.YtmmcpahaekpknaaRefValid
import Derived.Test.YtmmcpahaekpknaaArg
namespace Go.Proofs.Ytmmcpahaekpknaa
open Go.RowKit

set_option maxHeartbeats 1000000 in
theorem matchingValid_walk (A : Option Addr) (c : Nat) (xs : List Int) (w : World) (hx : RI w (· < w.heap.size) A xs) (hm : xs.length ≤ maxLen) (_hw : ∀ k, -9223372036854775808 ≤ gi xs k ∧ gi xs k ≤ 9223372036854775807) :
    Calls Try.prog 3 #[.slice A xs.length c] w fun e w' => e = .returned (.bool true) ∧ Below w.heap.size w w' := by
  by_cases h60 : (60 : Int) < xs.length
  · go_enter Try.func3, Try.ntmps3
    go_wp2_with fail
    refine (awake_any _).mono ?_
    rintro e w1 ⟨rfl, hb1⟩
    go_wp2_with fail
    go_ret
    exact ⟨rfl, hb1⟩
  · go_enter Try.func3, Try.ntmps3
    go_wp2_with fail
    refine (awake_any _).mono ?_
    rintro e w1 ⟨rfl, hb1⟩
    have hs1 := hb1.size
    go_wp2_with fail
    obtain ⟨r, hr⟩ : ∃ r, decide (IsM xs) = r := ⟨_, rfl⟩
    have H := Lib.hid hr
    clear hr
    refine (valid_any A c xs _ (· < w.heap.size) (hx.below hb1) (fun _ h => by omega) hm).mono ?_
    rintro e w2 ⟨he, hb2⟩
    have hb := hb1.trans (hb2.mono hs1)
    rw [H.out] at he
    subst he
    go_wp2_with fail
    refine (refvalid_any A c xs _ (· < w.heap.size) (hx.below hb) hm).mono ?_
    rintro e w3 ⟨he, n, rfl⟩
    rw [H.out] at he
    subst he
    clear H hb1 hb2
    cases r
    all_goals
      go_wp2_with fail
      go_ret
      exact ⟨rfl, below_drewN hb n⟩
end Go.Proofs.Ytmmcpahaekpknaa
