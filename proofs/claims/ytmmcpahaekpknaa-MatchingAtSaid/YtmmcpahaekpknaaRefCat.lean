/-
  The contract of the reference's Catalan.
-/
import Derived.Test.YtmmcpahaekpknaaCat
namespace Go.Proofs.Ytmmcpahaekpknaa
open Go.RowKit

def convC (i : Nat) : Nat → Nat
  | 0 => 0
  | k + 1 => convC i k + catN k * catN (i - 1 - k)
theorem conv_full : ∀ i, i < 31 → 1 ≤ i → convC i i = catN i := by decide +kernel
theorem conv_mono (i : Nat) : ∀ k d, convC i k ≤ convC i (k + d)
  | k, 0 => Nat.le_refl _
  | k, d + 1 => by
    have := conv_mono i k d
    rw [← Nat.add_assoc, convC]
    omega
theorem conv_bound {i k : Nat} (hi : i < 31) (hk : k < i) : convC i (k + 1) ≤ 4611686018427387904 := by
  obtain ⟨d, rfl⟩ : ∃ d, i = k + 1 + d := ⟨i - (k + 1), by omega⟩
  have h1 := conv_mono (k + 1 + d) (k + 1) d
  have h2 := conv_full (k + 1 + d) hi (by omega)
  have h3 := (cat_bounds hi).2.1
  omega

set_option maxHeartbeats 1000000 in
theorem refcat_any (n : Nat) (w : World) (hn : n ≤ 30) :
    Calls Try.prog 15 #[.int .i64 n] w fun e w' => e = .returned (.int .i64 (catN n)) ∧ Below w.heap.size w w' := by
  go_enter Try.func15, Try.ntmps15
  go_wp2
  go_loopw [3, 4, 5] (fun l i _ wr => ∃ (k : Nat) (ls : List Int), 1 ≤ k ∧ k ≤ n + 1 ∧ i = .int .i64 k ∧ Hid (OI wr w.heap.size l ls) ∧ Hid (ls.length = k) ∧ Hid (∀ j, j < k → gi ls j = catN j) ∧ Below w.heap.size w wr) (fun _ i _ _ => n + 1 - (intOf i).toNat)
  case atStart =>
    refine ⟨1, [1], by omega, by omega, rfl, ?_, rfl, (fun j hj => by obtain rfl : j = 0 := by omega
                                                                      rfl), (Below.refl _ _).alloc (Nat.le_refl _) _⟩
    exact OR.made (e := 3) (f := Value.int .i64) (xs := [1]) w w.heap.size #[.int .i64 1] (Nat.le_refl _) (by decide) rfl
  case round =>
    obtain ⟨k, ls, hk1, hk2, rfl, HO, HL, HG, hbel⟩ := hrel
    obtain ⟨g, c, rfl, hg1, hg2, hlc, -, hcell, -⟩ := HO.out.ints (by rw [HL.out]; omega)
    have hlk := HL.out
    by_cases hlt : k ≤ n
    · have HC := Lib.hid hcell
      clear hcell
      rw [hlk]
      rw [hlk] at hlc
      have HLK := Lib.hid hlk
      clear hlk
      go_wp2
      go_loopw [5, 6] (fun s j w2 => ∃ (q d : Nat), q ≤ k ∧ s = .int .i64 (convC k q) ∧ j = .int .i64 q ∧ w2 = wr.drewN d) (fun _ j _ => k - (intOf j).toNat)
      case atStart => exact ⟨0, 0, Nat.zero_le _, rfl, rfl, rfl⟩
      case round =>
        obtain ⟨q, d, hq, rfl, rfl, rfl⟩ := hrel
        have hsz := hbel.size
        by_cases hql : q < k
        · have c1 := HC.out q (by rw [HL.out]; omega)
          have c2 := HC.out (k - 1 - q) (by rw [HL.out]; omega)
          rw [HG.out q hql] at c1
          rw [HG.out (k - 1 - q) (by omega)] at c2
          have hb1 := conv_bound (i := k) (k := q) (by omega) hql
          have hb2 : catN q * catN (k - 1 - q) ≤ 4611686018427387904 := by rw [convC] at hb1; omega
          have hb3 : convC k q ≤ 4611686018427387904 := by rw [convC] at hb1; omega
          have e1 : (convC k (q + 1) : Int) = (convC k q : Int) + (catN q : Int) * (catN (k - 1 - q) : Int) := by rw [convC]; simp
          have e2 : (k : Int) - 1 - (q : Int) = ((k - 1 - q : Nat) : Int) := by omega
          have p1 : (0 : Int) ≤ (catN q : Int) * (catN (k - 1 - q) : Int) ∧ (catN q : Int) * (catN (k - 1 - q) : Int) ≤ 4611686018427387904 := by
            have : ((catN q * catN (k - 1 - q) : Nat) : Int) = (catN q : Int) * (catN (k - 1 - q) : Int) := by simp
            omega
          have i1 : (0 : Int) ≤ q ∧ (q : Int) < k := by omega
          have i2 : (0 : Int) ≤ ((k - 1 - q : Nat) : Int) ∧ ((k - 1 - q : Nat) : Int) < k := by omega
          have w1 : IntKind.i64.wrap ((k : Int) - 1) = (k : Int) - 1 := IntWalk.i64_in _ (by omega)
          have w2 : IntKind.i64.wrap ((k : Int) - 1 - (q : Int)) = ((k - 1 - q : Nat) : Int) := by rw [IntWalk.i64_in _ (by omega)]; omega
          have w3 : IntKind.i64.wrap ((catN q : Int) * (catN (k - 1 - q) : Int)) = (catN q : Int) * (catN (k - 1 - q) : Int) := IntWalk.i64_in _ (by omega)
          have w4 : IntKind.i64.wrap ((convC k q : Int) + (catN q : Int) * (catN (k - 1 - q) : Int)) = (convC k q : Int) + (catN q : Int) * (catN (k - 1 - q) : Int) := IntWalk.i64_in _ (by omega)
          have E1 := Lib.hid e1
          have W1 := Lib.hid w1
          have W2 := Lib.hid w2
          have W3 := Lib.hid w3
          have W4 := Lib.hid w4
          clear e1 e2 w1 w2 w3 w4 hb1 hb2 hb3
          go_wp2
          have w1 := W1.out
          have w2 := W2.out
          have w3 := W3.out
          have w4 := W4.out
          go_quiet (fail)
          clear w1 w2 w3 w4
          go_wp2
          go_roundw
          case rel => exact ⟨q + 1, _, by omega, by rw [E1.out], by go_num, rfl⟩
          case measure => simp [intOf]; omega
        · have hqk : q = k := by omega
          have HQ := Lib.hid hqk
          clear hqk
          have hoi : OI (wr.drewN d) w.heap.size (.slice (some ⟨g, 0, none⟩) k c) ls := by have := HO.out; rw [HL.out] at this; exact this
          go_wp2_with (at_builtin; refine app1 hoi (by rw [HL.out]; omega) hsz rfl rfl Try.underlying22 rfl rfl ?_; intro v' w' ho hg hob)
          have hbel' := hoi.grown_below (below_drewN hbel d) hsz _ hg
          go_roundw
          case rel =>
            refine ⟨k + 1, _, by omega, by omega, by go_num, ho, by show List.length _ = _; rw [List.length_append, HL.out]; rfl, ?_, hbel'⟩
            intro j hj
            rcases Nat.lt_or_eq_of_le (Nat.le_of_lt_succ hj) with h | rfl
            · rw [gi_append_lt (by rw [HL.out]; exact h)]
              exact HG.out j h
            · have := gi_append_at ls (convC j q : Int)
              rw [HL.out] at this
              rw [this, HQ.out, conv_full j (by omega) (by omega)]
          case measure => simp [intOf]; omega
    · have hkn : k = n + 1 := by omega
      have c1 := hcell n (by omega)
      rw [HG.out n (by omega)] at c1
      have i1 : (n : Int) < k := by omega
      rw [hlk]
      clear hcell hlk hkn
      go_wp2
      go_ret
      exact ⟨rfl, hbel⟩
end Go.Proofs.Ytmmcpahaekpknaa
