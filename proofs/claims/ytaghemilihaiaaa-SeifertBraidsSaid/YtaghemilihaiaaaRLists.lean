/-
  The contract of the reference's Lists: it tells whether two lists of lists of integers are equal.
-/
import Derived.Test.YtaghemilihaiaaaInts
import Derived.Test.YtaghemilihaiaaaLists
namespace Go.Proofs.Ytaghemilihaiaaa
open Go.RowKit

/-- a slice of slices that reads as a list of lists -/
def RL (w : World) (S : Nat → Prop) (A : Option Addr) (xss : List (List Int)) : Prop :=
  xss ≠ [] → ∃ b off, A = some ⟨b, off, none⟩ ∧ S b ∧ ∀ k, k < xss.length → ∃ Ak ck, w.cell? ⟨b, off + k, none⟩ = some (.slice Ak (xss.getD k []).length ck) ∧ RI w S Ak (xss.getD k []) ∧ (xss.getD k []).length ≤ maxLen
theorem RL.at_ {w : World} {S : Nat → Prop} {A : Option Addr} {xss : List (List Int)} (h : RL w S A xss) {k : Nat} (hk : k < xss.length) :
    ∃ b off, A = some ⟨b, off, none⟩ ∧ S b ∧ ∀ k, k < xss.length → ∃ Ak ck, w.cell? ⟨b, off + k, none⟩ = some (.slice Ak (xss.getD k []).length ck) ∧ RI w S Ak (xss.getD k []) ∧ (xss.getD k []).length ≤ maxLen :=
  h (by intro e; subst e; simp at hk)
theorem RL.keep {w w' : World} {S : Nat → Prop} {A : Option Addr} {xss : List (List Int)} (h : RL w S A xss) (hk : ∀ b, S b → w'.heap[b]? = w.heap[b]?) : RL w' S A xss := fun hne => by
  obtain ⟨b, off, e, hb, hc⟩ := h hne
  refine ⟨b, off, e, hb, fun k hlt => ?_⟩
  obtain ⟨Ak, ck, h1, h2, h3⟩ := hc k hlt
  exact ⟨Ak, ck, (World.cell?_of_block (a := ⟨b, off + k, none⟩) (hk b hb)).trans h1, h2.keep hk, h3⟩
theorem RL.imp {w : World} {S T : Nat → Prop} {A : Option Addr} {xss : List (List Int)} (h : RL w S A xss) (hS : ∀ b, S b → T b) : RL w T A xss := fun hne => by
  obtain ⟨b, off, e, hb, hc⟩ := h hne
  refine ⟨b, off, e, hS b hb, fun k hlt => ?_⟩
  obtain ⟨Ak, ck, h1, h2, h3⟩ := hc k hlt
  exact ⟨Ak, ck, h1, h2.imp hS, h3⟩
theorem RL.below {w w' : World} {B : Nat} {A : Option Addr} {xss : List (List Int)} (h : RL w (· < B) A xss) (hb : Below B w w') : RL w' (· < B) A xss := h.keep fun b hlt => hb.block b hlt
theorem RL.drewN {w : World} {S : Nat → Prop} {A : Option Addr} {xss : List (List Int)} (h : RL w S A xss) (n : Nat) : RL (w.drewN n) S A xss := h
theorem RL.nil (w : World) (S : Nat → Prop) (A : Option Addr) : RL w S A [] := fun h => absurd rfl h
theorem RR.reads {eo : TypeId} {w : World} {N : Nat} {F : Nat → Prop} {v : Value} {xss : List (List Int)} (h : RR eo w N F v xss) : ∃ A c, v = .slice A xss.length c ∧ RL w (fun b => N ≤ b ∧ b < w.heap.size) A xss := by
  obtain ⟨A, c, rfl, -, -, -⟩ := h.shape
  refine ⟨A, c, rfl, fun hne => ?_⟩
  have hpos : 0 < xss.length := by
    rcases Nat.eq_zero_or_pos xss.length with h0 | h0
    · exact absurd (List.eq_nil_of_length_eq_zero h0) hne
    · exact h0
  obtain ⟨g, c0, A0, c0', hv, hg1, hg2, -⟩ := h.at_ hpos
  injection hv with e1 _ _
  refine ⟨g, 0, e1, ⟨hg1, hg2⟩, fun k hk => ?_⟩
  obtain ⟨g', c1, Ak, ck, hv', -, -, h1, h2, h3⟩ := h.at_ hk
  injection hv' with e1' _ _
  rw [e1] at e1'
  injection e1' with e1'
  injection e1' with e1'
  subst e1'
  exact ⟨Ak, ck, by rw [Nat.zero_add]; exact h1, h2, h3⟩

theorem lists_getD {α : Type} {xss yss : List (List α)} (hl : xss.length = yss.length) (h : ∀ k, k < xss.length → xss.getD k [] = yss.getD k []) : xss = yss := by
  apply List.ext_getElem hl
  intro k h1 h2
  have := h k h1
  simpa [h1, h2] using this

set_option maxHeartbeats 1000000 in
theorem rlists_any (A B : Option Addr) (c d : Nat) (xss yss : List (List Int)) (w : World) (S : Nat → Prop) (hx : RL w S A xss) (hy : RL w S B yss) (hm : xss.length ≤ 9223372036854775807) :
    Calls Try.prog 15 #[.slice A xss.length c, .slice B yss.length d] w fun e w' => e = .returned (.bool (decide (xss = yss))) ∧ ∃ n, w' = w.drewN n := by
  by_cases hl : xss.length = yss.length
  · have hl1 : ((xss.length : Int) != yss.length) = false := by rw [bne_eq_false_iff_eq]; omega
    have hl' : xss.length ≤ yss.length := by omega
    have hl2 : yss.length ≤ xss.length := by omega
    have HL := Lib.hid hl
    have HX := Lib.hid hx
    have HY := Lib.hid hy
    clear hl hx hy
    go_enter Try.func15, Try.ntmps15
    go_wp2
    go_loopw [5] (fun i wr => ∃ k n : Nat, k ≤ xss.length ∧ i = .int .i64 k ∧ wr = w.drewN n ∧ Hid (∀ j, j < k → xss.getD j [] = yss.getD j [])) (fun i _ => xss.length - (intOf i).toNat)
    case atStart => exact ⟨0, 0, Nat.zero_le _, rfl, rfl, by intro j hj; omega⟩
    case round =>
      obtain ⟨k, n, hk, rfl, hwr, HA⟩ := hrel
      have HW := Lib.hid hwr
      have HX : Hid (RL wr S A xss) := by rw [hwr]; exact HX.out.drewN n
      have HY : Hid (RL wr S B yss) := by rw [hwr]; exact HY.out.drewN n
      clear hwr
      by_cases hlt : k < xss.length
      · obtain ⟨b, off, rfl, -, hc⟩ := HX.out.at_ hlt
        obtain ⟨b', off', rfl, -, hc'⟩ := HY.out.at_ (show k < yss.length by omega)
        obtain ⟨Ak, ck, k1, r1, l1⟩ := hc k hlt
        obtain ⟨Bk, dk, k2, r2, l2⟩ := hc' k (by omega)
        clear hc hc'
        have e1 : (0:Int) ≤ k ∧ (k:Int) < xss.length := by omega
        have e2 : (0:Int) ≤ k ∧ (k:Int) < yss.length := by omega
        obtain ⟨xk, hxk⟩ : ∃ x, xss.getD k [] = x := ⟨_, rfl⟩
        obtain ⟨yk, hyk⟩ : ∃ y, yss.getD k [] = y := ⟨_, rfl⟩
        rw [hxk] at k1 r1 l1
        rw [hyk] at k2 r2 l2
        have R1 := Lib.hid r1
        have R2 := Lib.hid r2
        have L1 := Lib.hid l1
        have L2 := Lib.hid l2
        have HXK := Lib.hid hxk
        have HYK := Lib.hid hyk
        clear r1 r2 l1 l2 hxk hyk
        by_cases hne : xk = yk
        · have hd : decide (xk = yk) = true := decide_eq_true hne
          have HDD := Lib.hid hd
          have HA' : Hid (∀ j, j < k + 1 → xss.getD j [] = yss.getD j []) := by
            intro j hj
            rcases Nat.lt_or_eq_of_le (Nat.le_of_lt_succ hj) with h | rfl
            · exact HA.out j h
            · rw [HXK.out, HYK.out]; exact hne
          clear hne hd
          go_wp2
          go_quiet ((go_at_call 37; exact Calls.quiet_of (ints_is S S true (R1.out.drewN _) (R2.out.drewN _) rfl rfl L1.out L2.out HDD.out)))
          go_wp2
          go_roundw
          case rel => exact ⟨k + 1, _, by omega, by go_num, by rw [HW.out]; exact drewN2 _ _ _, HA'⟩
          case measure => simp [intOf]; omega
        · have hd : decide (xk = yk) = false := decide_eq_false hne
          have HDD := Lib.hid hd
          have hdd : decide (xss = yss) = false := decide_eq_false fun e => hne (by rw [← HXK.out, ← HYK.out, e])
          have H := Lib.hid hdd
          clear hne hd hdd
          go_wp2
          go_quiet ((go_at_call 37; exact Calls.quiet_of (ints_is S S false (R1.out.drewN _) (R2.out.drewN _) rfl rfl L1.out L2.out HDD.out)))
          go_wp2
          go_ret
          exact ⟨ret_bool H.out.symm, _, by rw [HW.out]; exact drewN2 _ _ _⟩
      · have hd : decide (xss = yss) = true := decide_eq_true (lists_getD HL.out fun j hj => HA.out j (by omega))
        have H := Lib.hid hd
        clear hd
        go_wp2
        go_ret
        exact ⟨ret_bool H.out.symm, _, HW.out⟩
  · have hl1 : ((xss.length : Int) != yss.length) = true := by rw [bne_iff_ne]; omega
    have hd : decide (xss = yss) = false := decide_eq_false fun e => hl (by rw [e])
    have H := Lib.hid hd
    clear hl hd hx hy
    go_enter Try.func15, Try.ntmps15
    go_wp2
    go_ret
    exact ⟨ret_bool H.out.symm, 0, rfl⟩
/-- with the outcome in the caller's hand -/
theorem rlists_is {A B : Option Addr} {c d n m : Nat} {xss yss : List (List Int)} {w : World} (S : Nat → Prop) (r : Bool) (hx : RL w S A xss) (hy : RL w S B yss) (hxl : xss.length = n) (hyl : yss.length = m) (hm : n ≤ 9223372036854775807) (hr : decide (xss = yss) = r) :
    Calls Try.prog 15 #[.slice A n c, .slice B m d] w fun e w' => e = .returned (.bool r) ∧ ∃ n, w' = w.drewN n := by
  subst hxl hyl hr
  exact rlists_any A B c d xss yss w S hx hy hm
end Go.Proofs.Ytaghemilihaiaaa

