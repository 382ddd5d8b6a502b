/-
  The contracts of slices.Equal at slices of integers, of diagram.Equal, and of the reference's Equal.
-/
import Derived.Test.YtcjgfncbecbhjaaInts
import Derived.Test.YtcjgfncbecbhjaaLists
namespace Go.Proofs.Ytcjgfncbecbhjaa
open Go.RowKit

set_option maxHeartbeats 400000 in
theorem sequal_any (A B : Option Addr) (c d : Nat) (xs ys : List Int) (w : World) (S T : Nat → Prop) (hx : RI w S A xs) (hy : RI w T B ys) (hm : xs.length ≤ maxLen) (_hn : ys.length ≤ maxLen) :
    Calls Try.prog 17 #[.slice A xs.length c, .slice B ys.length d] w fun e w' => e = .returned (.bool (decide (xs = ys))) ∧ ∃ n, w' = w.drewN n := by
  unfold maxLen at hm _hn
  by_cases hl : xs.length = ys.length
  · have hl1 : ((xs.length : Int) != ys.length) = false := by rw [bne_eq_false_iff_eq]; omega
    have hl' : xs.length ≤ ys.length := by omega
    have hl2 : ys.length ≤ xs.length := by omega
    have HL := Lib.hid hl
    clear hl
    go_enter Try.func17, Try.ntmps17
    go_wp2
    go_loopw [13] (fun i wr => ∃ k n : Nat, k ≤ xs.length ∧ i = .int .i64 k ∧ wr = w.drewN n ∧ Hid (∀ j, j < k → gi xs j = gi ys j)) (fun i _ => xs.length - (intOf i).toNat)
    case atStart => exact ⟨0, 0, Nat.zero_le _, rfl, rfl, by intro j hj; omega⟩
    case round =>
      obtain ⟨k, n, hk, rfl, rfl, HA⟩ := hrel
      by_cases hlt : k < xs.length
      · obtain ⟨b, off, rfl, -, hc⟩ := hx.at_ hlt
        obtain ⟨b', off', rfl, -, hc'⟩ := hy.at_ (show k < ys.length by omega)
        have c1 := hc k hlt
        have c2 := hc' k (by omega)
        clear hc hc'
        have e1 : (0:Int) ≤ k ∧ (k:Int) < xs.length := by omega
        have e2 : (0:Int) ≤ k ∧ (k:Int) < ys.length := by omega
        by_cases hne : gi xs k = gi ys k
        · have e3 : (gi xs k != gi ys k) = false := by rw [bne_eq_false_iff_eq]; exact hne
          have HA' : Hid (∀ j, j < k + 1 → gi xs j = gi ys j) := by
            intro j hj
            rcases Nat.lt_or_eq_of_le (Nat.le_of_lt_succ hj) with h | rfl
            · exact HA.out j h
            · exact hne
          clear hne
          go_wp2
          go_quiet (fail)
          go_wp2
          go_roundw
          case rel => exact ⟨k + 1, _, by omega, by go_num, rfl, HA'⟩
          case measure => simp [intOf]; omega
        · have e3 : (gi xs k != gi ys k) = true := by rw [bne_iff_ne]; exact hne
          have hd : decide (xs = ys) = false := decide_eq_false fun e => hne (by rw [e])
          have H := Lib.hid hd
          clear hne hd
          go_wp2
          go_quiet (fail)
          go_wp2
          go_ret
          exact ⟨ret_bool H.out.symm, _, drewN2 _ _ _⟩
      · have hd : decide (xs = ys) = true := decide_eq_true (ext_gi HL.out fun j hj => HA.out j (by omega))
        have H := Lib.hid hd
        clear hd
        go_wp2
        go_ret
        exact ⟨ret_bool H.out.symm, _, rfl⟩
  · have hl1 : ((xs.length : Int) != ys.length) = true := by rw [bne_iff_ne]; omega
    have hd : decide (xs = ys) = false := decide_eq_false fun e => hl (by rw [e])
    have H := Lib.hid hd
    clear hl hd
    go_enter Try.func17, Try.ntmps17
    go_wp2
    go_ret
    exact ⟨ret_bool H.out.symm, 0, rfl⟩

theorem sequal_is {A B : Option Addr} {c d n m : Nat} {xs ys : List Int} {w : World} (S T : Nat → Prop) (r : Bool) (hx : RI w S A xs) (hy : RI w T B ys) (hxl : xs.length = n) (hyl : ys.length = m) (hm : n ≤ maxLen) (hn : m ≤ maxLen) (hr : decide (xs = ys) = r) :
    Calls Try.prog 17 #[.slice A n c, .slice B m d] w fun e w' => e = .returned (.bool r) ∧ ∃ n, w' = w.drewN n := by
  subst hxl hyl hr
  exact sequal_any A B c d xs ys w S T hx hy hm hn

/-- are two diagrams equal? -/
def eqD (sg mt : List Int) (L : Int) (sg' mt' : List Int) (L' : Int) : Bool := decide (sg = sg') && decide (mt = mt') && decide (L = L')

/-- two boxes -/
theorem two_boxes {w : World} {A1 A2 B1 B2 : Option Addr} {c1 c2 d1 d2 : Nat} {sg mt sg' mt' : List Int} {L L' : Int} (S : Nat → Prop) (h1 : RI w S A1 sg) (h2 : RI w S A2 mt) (h3 : RI w S B1 sg') (h4 : RI w S B2 mt') (hS : ∀ b, S b → b < w.heap.size) :
    DBox ((w.alloc (.cells #[.slice A1 sg.length c1, .slice A2 mt.length c2, .int .i64 L] 24)).alloc (.cells #[.slice B1 sg'.length d1, .slice B2 mt'.length d2, .int .i64 L'] 24)) w.heap.size A1 A2 c1 c2 sg mt L ∧
    DBox ((w.alloc (.cells #[.slice A1 sg.length c1, .slice A2 mt.length c2, .int .i64 L] 24)).alloc (.cells #[.slice B1 sg'.length d1, .slice B2 mt'.length d2, .int .i64 L'] 24)) (w.heap.size + 1) B1 B2 d1 d2 sg' mt' L' ∧
    Below w.heap.size w ((w.alloc (.cells #[.slice A1 sg.length c1, .slice A2 mt.length c2, .int .i64 L] 24)).alloc (.cells #[.slice B1 sg'.length d1, .slice B2 mt'.length d2, .int .i64 L'] 24)) := by
  have hd1 := DBox.start (c1 := c1) (c2 := c2) (L := L) S h1 h2 hS
  have hk : ∀ {A : Option Addr} {xs : List Int}, RI w S A xs → RI (w.alloc (.cells #[.slice A1 sg.length c1, .slice A2 mt.length c2, .int .i64 L] 24)) S A xs := fun h => h.keep fun b hb => Below.heap_alloc w _ b (hS b hb)
  have hd2 := DBox.start (c1 := d1) (c2 := d2) (L := L') S (hk h3) (hk h4) (fun b hb => by have := hS b hb; simp; omega)
  refine ⟨hd1.below ((Below.refl _ _).alloc (Nat.le_refl _) _), ?_, ((Below.refl _ _).alloc (Nat.le_refl _) _).alloc (by simp) _⟩
  simpa using hd2

section
variable (A1 A2 B1 B2 : Option Addr) (c1 c2 d1 d2 : Nat) (sg mt sg' mt' : List Int) (L L' : Int) (w : World) (S : Nat → Prop) (h1 : RI w S A1 sg) (h2 : RI w S A2 mt) (h3 : RI w S B1 sg') (h4 : RI w S B2 mt') (hS : ∀ b, S b → b < w.heap.size)
  (m1 : sg.length ≤ maxLen) (m2 : mt.length ≤ maxLen) (m3 : sg'.length ≤ maxLen) (m4 : mt'.length ≤ maxLen)
include h1 h2 h3 h4 hS m1 m2 m3 m4
end
end Go.Proofs.Ytcjgfncbecbhjaa

