/-
  slices.ContainsFunc over ints, for whatever predicate without captures.
-/
import Derived.Test.YtcjgfncbecbhjaaCycF
namespace Go.Proofs.Ytcjgfncbecbhjaa
open Go.RowKit

/-- K computes p at the numbers of xs -/
def PrOk (K : Nat) (p : Int → Bool) (xs : List Int) : Prop := ∀ k, k < xs.length → ∀ W : World, Calls Try.prog K #[.int .i64 (gi xs k)] W fun e w' => e = .returned (.bool (p (gi xs k))) ∧ W = w'

set_option maxHeartbeats 1000000 in
theorem indexf_any (K : Nat) (hK : Enters K) (p : Int → Bool) (A : Option Addr) (c : Nat) (xs : List Int) (w : World) (S : Nat → Prop) (hx : RI w S A xs) (hm : xs.length ≤ maxLen) (hp : PrOk K p xs) :
    Calls Try.prog 57 #[.slice A xs.length c, .func (.func K) #[] #[]] w fun e w' => (∃ k : Nat, k < xs.length ∧ p (gi xs k) = true ∧ e = .returned (.int .i64 k) ∧ w = w') ∨ ((∀ k, k < xs.length → p (gi xs k) = false) ∧ e = .returned (.int .i64 (-1)) ∧ w = w') := by
  unfold maxLen at hm
  have HX := Lib.hid hx
  have HP := Lib.hid hp
  have hin : ∀ (args : Array Value) (w : World), (callFunc K args).run Try.prog w = .ok (.enter K args) w := hK
  clear hx hp hK
  go_enter Try.func57, Try.ntmps57
  go_wp2_with fail
  go_loopw [5, 8] (fun _ i wr => ∃ k : Nat, k ≤ xs.length ∧ i = .int .i64 k ∧ w = wr ∧ Hid (∀ j, j < k → p (gi xs j) = false)) (fun _ i _ => xs.length - (intOf i).toNat)
  case atStart => exact ⟨0, Nat.zero_le _, rfl, rfl, fun j hj => by omega⟩
  case round =>
    obtain ⟨k, hk, rfl, rfl, HA⟩ := hrel
    by_cases hlt : k < xs.length
    · obtain ⟨b, off, rfl, -, hcc⟩ := HX.out.at_ hlt
      have c1 := hcc k hlt
      have HC := Lib.hid (HP.out k hlt w)
      cases hq : p (gi xs k)
      · rw [hq] at HC
        have HA' : Hid (∀ j, j < k + 1 → p (gi xs j) = false) := fun j hj => by
          rcases Nat.lt_or_eq_of_le (Nat.le_of_lt_succ hj) with h1 | rfl
          · exact HA.out j h1
          · exact hq
        obtain ⟨y, hy⟩ : ∃ y, gi xs k = y := ⟨_, rfl⟩
        rw [hy] at c1 HC
        clear hcc hq hy HA
        go_wp2_with fail
        refine HC.out.mono ?_
        rintro e w1 ⟨rfl, rfl⟩
        go_wp2_with fail
        go_roundw
        case rel => exact ⟨k + 1, by omega, by go_num, by trivial, HA'⟩
        case measure => simp [intOf]; omega
      · rw [hq] at HC
        have HQ := Lib.hid hq
        obtain ⟨y, hy⟩ : ∃ y, gi xs k = y := ⟨_, rfl⟩
        rw [hy] at c1 HC
        clear hcc hq hy HA
        go_wp2_with fail
        refine HC.out.mono ?_
        rintro e w1 ⟨rfl, rfl⟩
        go_wp2_with fail
        go_ret
        exact .inl ⟨k, hlt, HQ.out, rfl, rfl⟩
    · obtain rfl : xs.length = k := by omega
      go_wp2_with fail
      go_ret
      exact .inr ⟨HA.out, rfl, rfl⟩

theorem contf_any (K : Nat) (hK : Enters K) (p : Int → Bool) (A : Option Addr) (c : Nat) (xs : List Int) (w : World) (S : Nat → Prop) (hx : RI w S A xs) (hm : xs.length ≤ maxLen) (hp : PrOk K p xs) :
    Calls Try.prog 26 #[.slice A xs.length c, .func (.func K) #[] #[]] w fun e w' => e = .returned (.bool (xs.any p)) ∧ w = w' := by
  have HC := Lib.hid (indexf_any K hK p A c xs w S hx hm hp)
  obtain ⟨r, hr⟩ : ∃ r, xs.any p = r := ⟨_, rfl⟩
  rw [hr]
  have HR := Lib.hid hr
  clear hx hm hp hK hr
  go_enter Try.func26, Try.ntmps26
  go_wp2_with fail
  refine HC.out.mono ?_
  rintro e w1 (⟨k, hk, hp, rfl, rfl⟩ | ⟨ha, rfl, rfl⟩)
  · have hd : xs.any p = true := by
      rw [List.any_eq_true]
      refine ⟨xs[k], List.getElem_mem hk, ?_⟩
      have : gi xs k = xs[k] := by simp [gi, hk]
      rw [← this]; exact hp
    obtain rfl : r = true := by rw [← HR.out]; exact hd
    have h0 : (0 : Int) ≤ (k : Int) := by omega
    clear hp hd
    go_wp2_with fail
    go_ret
    exact ⟨rfl, rfl⟩
  · have hd : xs.any p = false := by
      rw [List.any_eq_false]
      intro x hx
      obtain ⟨k, hk, rfl⟩ := List.mem_iff_getElem.1 hx
      have h1 : gi xs k = xs[k] := by simp [gi, hk]
      have := ha k hk
      rw [h1] at this
      rw [this]; simp
    obtain rfl : r = false := by rw [← HR.out]; exact hd
    clear ha hd
    go_wp2_with fail
    go_ret
    exact ⟨rfl, rfl⟩
theorem any_is {K : Nat} (hK : Enters K) (p : Int → Bool) (A : Option Addr) (c n : Nat) (xs : List Int) (w : World) (S : Nat → Prop) (hx : RI w S A xs) (hn : xs.length = n) (hm : n ≤ maxLen) (hp : PrOk K p xs) {r : Bool} (hr : xs.any p = r) :
    Calls Try.prog 26 #[.slice A n c, .func (.func K) #[] #[]] w fun e w' => e = .returned (.bool r) ∧ w = w' := by
  subst hn hr
  exact contf_any K hK p A c xs w S hx hm hp
end Go.Proofs.Ytcjgfncbecbhjaa

