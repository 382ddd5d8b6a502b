/-
  The contract of the reference's Ints: it tells whether two slices hold the same integers.
-/
import Derived.Test.YtaghemilihaiaaaBase
namespace Go.Proofs.Ytaghemilihaiaaa
open Go.RowKit

set_option maxHeartbeats 400000 in
theorem ints_any (A B : Option Addr) (c d : Nat) (xs ys : List Int) (w : World) (S T : Nat → Prop) (hx : RI w S A xs) (hy : RI w T B ys) (hm : xs.length ≤ maxLen) (_hn : ys.length ≤ maxLen) :
    Calls Try.prog 37 #[.slice A xs.length c, .slice B ys.length d] w fun e w' => e = .returned (.bool (decide (xs = ys))) ∧ ∃ n, w' = w.drewN n := by
  unfold maxLen at hm _hn
  by_cases hl : xs.length = ys.length
  · have hl1 : ((xs.length : Int) != ys.length) = false := by rw [bne_eq_false_iff_eq]; omega
    have hl' : xs.length ≤ ys.length := by omega
    have hl2 : ys.length ≤ xs.length := by omega
    have HL := Lib.hid hl
    clear hl
    go_enter Try.func37, Try.ntmps37
    go_wp2
    go_loopw [5] (fun i wr => ∃ k n : Nat, k ≤ xs.length ∧ i = .int .i64 k ∧ wr = w.drewN n ∧ Hid (∀ j, j < k → gi xs j = gi ys j)) (fun i _ => xs.length - (intOf i).toNat)
    case atStart => exact ⟨0, 0, Nat.zero_le _, rfl, rfl, by intro j hj; omega⟩
    case round =>
      obtain ⟨k, n, hk, rfl, rfl, HA⟩ := hrel
      by_cases hlt : k < xs.length
      · obtain ⟨b, off, rfl, -, hc⟩ := hx.at_ hlt
        obtain ⟨b', off', rfl, -, hc'⟩ := hy.at_ (show k < ys.length by omega)
        have c1 := hc k hlt
        have c2 := hc' k (by omega)
        clear hc hc'
        have e1 : (0:Int) ≤ k ∧ (k:Int) < xs.length := by omega
        have e2 : (0:Int) ≤ k ∧ (k:Int) < ys.length := by omega
        by_cases hne : gi xs k = gi ys k
        · have e3 : (gi xs k != gi ys k) = false := by rw [bne_eq_false_iff_eq]; exact hne
          have HA' : Hid (∀ j, j < k + 1 → gi xs j = gi ys j) := by
            intro j hj
            rcases Nat.lt_or_eq_of_le (Nat.le_of_lt_succ hj) with h | rfl
            · exact HA.out j h
            · exact hne
          clear hne
          go_wp2
          go_quiet (fail)
          go_wp2
          go_roundw
          case rel => exact ⟨k + 1, _, by omega, by go_num, rfl, HA'⟩
          case measure => simp [intOf]; omega
        · have e3 : (gi xs k != gi ys k) = true := by rw [bne_iff_ne]; exact hne
          have hd : decide (xs = ys) = false := decide_eq_false fun e => hne (by rw [e])
          have H := Lib.hid hd
          clear hne hd
          go_wp2
          go_quiet (fail)
          go_wp2
          go_ret
          exact ⟨ret_bool H.out.symm, _, drewN2 _ _ _⟩
      · have hd : decide (xs = ys) = true := decide_eq_true (ext_gi HL.out fun j hj => HA.out j (by omega))
        have H := Lib.hid hd
        clear hd
        go_wp2
        go_ret
        exact ⟨ret_bool H.out.symm, _, rfl⟩
  · have hl1 : ((xs.length : Int) != ys.length) = true := by rw [bne_iff_ne]; omega
    have hd : decide (xs = ys) = false := decide_eq_false fun e => hl (by rw [e])
    have H := Lib.hid hd
    clear hl hd
    go_enter Try.func37, Try.ntmps37
    go_wp2
    go_ret
    exact ⟨ret_bool H.out.symm, 0, rfl⟩

/-- with the outcome in the caller's hand -/
theorem ints_is {A B : Option Addr} {c d n m : Nat} {xs ys : List Int} {w : World} (S T : Nat → Prop) (r : Bool) (hx : RI w S A xs) (hy : RI w T B ys) (hxl : xs.length = n) (hyl : ys.length = m) (hm : n ≤ maxLen) (hn : m ≤ maxLen) (hr : decide (xs = ys) = r) :
    Calls Try.prog 37 #[.slice A n c, .slice B m d] w fun e w' => e = .returned (.bool r) ∧ ∃ n, w' = w.drewN n := by
  subst hxl hyl hr
  exact ints_any A B c d xs ys w S T hx hy hm hn
end Go.Proofs.Ytaghemilihaiaaa

