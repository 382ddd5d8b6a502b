/-
  The contract of Signature.
  The contract of signature.Of.
  The examples of the chapter hold.
-/
import Derived.Test.YteanhbldhaiekaaInert
import Derived.Test.YteanhbldhaiekaaSfY
import Derived.Test.YteanhbldhaiekaaLit
namespace Go.Proofs.Yteanhbldhaiekaa
open Go.RowKit

/-- what Inertia answers is one -/
theorem InA.uniq {xss : List (List Int)} {p q p' q' : Nat} {z z' : Int} (h : InA xss p q z) (h' : InA xss p' q' z') : p = p' ∧ q = q' ∧ z = z' := by
  unfold InA at h h'
  by_cases e : inE xss = 0
  · rw [if_pos e] at h h'
    obtain ⟨e1, e2⟩ := h.2.2.1.uniq h'.2.2.1
    refine ⟨e1, e2, ?_⟩
    rw [h.2.1, h'.2.1, e1, e2]
  · rw [if_neg e] at h h'
    obtain ⟨rfl, rfl, rfl⟩ := h
    obtain ⟨rfl, rfl, rfl⟩ := h'
    exact ⟨rfl, rfl, rfl⟩
theorem InA.le {xss : List (List Int)} {p q : Nat} {z : Int} (h : InA xss p q z) : p + q ≤ xss.length := by
  unfold InA at h
  by_cases e : inE xss = 0
  · rw [if_pos e] at h; exact h.1
  · rw [if_neg e] at h; omega
set_option maxHeartbeats 1000000 in
theorem signature_any {w : World} {A : Option Addr} {n cap : Nat} {xss : List (List Int)} (h : AM w A n xss) :
    Calls Try.prog 14 #[.slice A n cap] w fun e w' => ∃ (p q : Nat) (z : Int), e = .returned (.tuple #[.int .i64 ((p : Int) - q), .int .i64 (inE xss : Nat)]) ∧ InA xss p q z ∧ Below w.heap.size w w' := by
  have HX := Lib.hid h
  clear h
  go_enter Try.func14, Try.ntmps14
  go_wp2_with fail
  refine (inertia_any HX.out).mono ?_
  rintro e w' ⟨p, q, z, rfl, hA, hb⟩
  have hle := hA.le
  have hnl := HX.out.nl
  have hln := HX.out.ln
  unfold maxLen at hnl
  have HA := Lib.hid hA
  have HB := Lib.hid hb
  have hw : IntKind.i64.wrap ((p : Int) - (q : Int)) = (p : Int) - q := by rw [IntKind.wrap_i64]; omega
  clear hA hb hle hnl hln
  go_wp2_with fail
  go_ret2
  exact ⟨p, q, z, rfl, HA.out, HB.out⟩
end Go.Proofs.Yteanhbldhaiekaa
namespace Go.Proofs.Yteanhbldhaiekaa
open Go.RowKit

/-- the error of Of -/
def ofE (S : Int) (ws : List Int) : Nat := if mxE S ws = 0 then if syE (mxL S ws) = 0 then inE (syL (mxL S ws)) else syE (mxL S ws) else mxE S ws
/-- what Of answers -/
def OfA (S : Int) (ws : List Int) (p q : Nat) : Prop := if ofE S ws = 0 then Inr (syL (mxL S ws)).length (eI (syL (mxL S ws))) p q else p = 0 ∧ q = 0
theorem OfA.uniq {S : Int} {ws : List Int} {p q p' q' : Nat} (h : OfA S ws p q) (h' : OfA S ws p' q') : p = p' ∧ q = q' := by
  unfold OfA at h h'
  by_cases e : ofE S ws = 0
  · rw [if_pos e] at h h'; exact h.uniq h'
  · rw [if_neg e] at h h'; exact ⟨h.1.trans h'.1.symm, h.2.trans h'.2.symm⟩
theorem mxL_le (S : Int) (ws : List Int) : (mxL S ws).length ≤ 64 := by
  unfold mxL
  split
  · rename_i h
    rw [mkL_len]
    unfold mxE at h
    split at h
    · split at h
      · omega
      · omega
    · rename_i h2; exact absurd h h2
  · exact Nat.zero_le _
set_option maxHeartbeats 4000000 in
theorem of_any {w : World} {A : Option Addr} {c : Nat} {S : Int} {ws : List Int} {T : Nat → Prop} (hr : RI w T A ws) (hT : ∀ b, T b → b < w.heap.size) (hl : ws.length ≤ maxLen) (h1 : -9223372036854775808 ≤ S) (h2 : S ≤ 9223372036854775807) :
    Calls Try.prog 20 #[.agg #[.int .i64 S, .slice A ws.length c]] w fun e w' => ∃ p q : Nat, e = .returned (.tuple #[.int .i64 ((p : Int) - q), .int .i64 (ofE S ws : Nat)]) ∧ OfA S ws p q ∧ Below w.heap.size w w' := by
  have hb : Below w.heap.size w (w.alloc (.cells #[.int .i64 S, .slice A ws.length c] 37)) := (Below.refl _ w).alloc (Nat.le_refl _) _
  have HM := Lib.hid (matrix_any (c := c) (hr.keep (w' := w.alloc (.cells #[.int .i64 S, .slice A ws.length c] 37)) fun b hb' => hb.block b (hT b hb')) (fun b hb' => Nat.lt_of_lt_of_le (hT b hb') hb.size) hl h1 h2)
  obtain ⟨c0, c1⟩ := brd_box w S A ws.length c 37
  have HB := Lib.hid hb
  clear hr hT hb
  obtain ⟨W, hW⟩ : ∃ W, w.alloc (.cells #[.int .i64 S, .slice A ws.length c] 37) = W := ⟨_, rfl⟩
  rw [hW] at c0 c1 HB HM
  have HW := Lib.hid hW
  clear hW
  go_enter Try.func20, Try.ntmps20
  go_wp2_with fail
  first
    | rw [HW.out]
    | skip
  refine HM.out.mono ?_
  rintro e w2 ⟨A2, n2, c2, rfl, hb2, ham⟩
  have HB2 := Lib.hid (HB.out.trans (hb2.mono HB.out.size))
  have HAM := Lib.hid ham
  have hn2 : n2 ≤ 64 := by rw [← ham.ln]; exact mxL_le S ws
  clear hb2 ham HB HM HW c0 c1
  by_cases hm : mxE S ws = 0
  · have HE : Hid (ofE S ws = if syE (mxL S ws) = 0 then inE (syL (mxL S ws)) else syE (mxL S ws)) := Lib.hid (by unfold ofE; rw [if_pos hm])
    have HSY := Lib.hid (symmetrized_any (cap := c2) HAM.out (by omega))
    rw [hm]
    clear hm
    go_wp2_with fail
    refine HSY.out.mono ?_
    rintro e w3 ⟨A3, n3, c3, rfl, ham3, hb3⟩
    have HB3 := Lib.hid (HB2.out.trans (hb3.mono HB2.out.size))
    have HSG := Lib.hid (signature_any (cap := c3) ham3)
    clear hb3 ham3 HSY
    by_cases hs : syE (mxL S ws) = 0
    · have HE2 : Hid (ofE S ws = inE (syL (mxL S ws))) := Lib.hid (by rw [HE.out, if_pos hs])
      rw [hs]
      clear hs
      go_wp2_with fail
      refine HSG.out.mono ?_
      rintro e w4 ⟨p, q, z, rfl, hA, hb4⟩
      have HB4 := Lib.hid (HB3.out.trans (hb4.mono HB3.out.size))
      have HO : Hid (OfA S ws p q) := Lib.hid (by
        unfold OfA
        rw [HE2.out]
        unfold InA at hA
        by_cases e : inE (syL (mxL S ws)) = 0
        · rw [if_pos e] at hA ⊢; exact hA.2.2.1
        · rw [if_neg e] at hA ⊢; exact ⟨hA.1, hA.2.1⟩)
      rw [← HE2.out]
      clear hA hb4
      go_wp2_with fail
      go_ret2
      exact ⟨p, q, rfl, HO.out, HB4.out⟩
    · obtain ⟨e, he⟩ : ∃ e, syE (mxL S ws) = e := ⟨_, rfl⟩
      rw [he] at hs ⊢
      have HE2 : Hid (ofE S ws = e) := Lib.hid (by rw [HE.out, he, if_neg hs])
      have z1 : ((e : Int) != 0) = true := by rw [bne_iff_ne]; omega
      clear HE
      go_wp2_with fail
      go_ret2
      exact ⟨0, 0, by rw [HE2.out]; rfl, by unfold OfA; rw [if_neg (by rw [HE2.out]; exact hs)]; exact ⟨rfl, rfl⟩, HB3.out⟩
  · obtain ⟨e, he⟩ : ∃ e, mxE S ws = e := ⟨_, rfl⟩
    rw [he] at hm ⊢
    have HE2 : Hid (ofE S ws = e) := Lib.hid (by unfold ofE; rw [he, if_neg hm])
    have z1 : ((e : Int) != 0) = true := by rw [bne_iff_ne]; omega
    go_wp2_with fail
    go_ret2
    exact ⟨0, 0, by rw [HE2.out]; rfl, by unfold OfA; rw [if_neg (by rw [HE2.out]; exact hm)]; exact ⟨rfl, rfl⟩, HB2.out⟩
end Go.Proofs.Yteanhbldhaiekaa
namespace Go.Proofs.Yteanhbldhaiekaa
open Go.RowKit

/-- two orthogonal vectors: 1 1 and 1 -1 -/
def vA : Mx := eI [[1, 1], [1, -1]]
theorem vA_ind (c : Nat → Int) (h : ∀ m, m < 2 → sI 2 (fun x => c x * vA x m) = 0) : ∀ x, x < 2 → c x = 0 := fun x hx => by
  have h0 : (0 + c 0 * 1) + c 1 * 1 = 0 := h 0 (by decide)
  have h1 : (0 + c 0 * 1) + c 1 * -1 = 0 := h 1 (by decide)
  rcases (show x = 0 ∨ x = 1 by omega) with rfl | rfl <;> omega
theorem fam2 (A : Mx) (a b : Int) (h1 : bil 2 A (vA 0) (vA 1) = 0) (h2 : bil 2 A (vA 1) (vA 0) = 0) (h3 : bil 2 A (vA 0) (vA 0) = a) (h4 : bil 2 A (vA 1) (vA 1) = b) : Fam 2 A vA (fun x => if x = 0 then a else b) 2 :=
  ⟨vA_ind, fun x y hx hy hne => by
    rcases (show (x = 0 ∧ y = 1) ∨ (x = 1 ∧ y = 0) by omega) with ⟨rfl, rfl⟩ | ⟨rfl, rfl⟩
    · exact h1
    · exact h2, fun x hx => by
    rcases (show x = 0 ∨ x = 1 by omega) with rfl | rfl
    · exact h3
    · exact h4⟩
theorem aw_of : ofE 2 [1, 1, 1] = 0 ∧ syL (mxL 2 [1, 1, 1]) = [[-2, 1], [1, -2]] := by decide +kernel
theorem aw_ofA {p q : Nat} (h : OfA 2 [1, 1, 1] p q) : p = 0 ∧ q = 2 := by
  refine h.uniq ?_
  unfold OfA
  rw [if_pos aw_of.1, aw_of.2]
  exact ⟨vA, _, fam2 _ (-2) (-6) (by decide +kernel) (by decide +kernel) (by decide +kernel) (by decide +kernel), by decide, by decide⟩
theorem aw_inA {p q : Nat} {z : Int} (h : InA [[0, 1], [1, 0]] p q z) : p = 1 ∧ q = 1 ∧ z = 0 := by
  have e : inE [[0, 1], [1, 0]] = 0 := by decide +kernel
  have hI : Inr 2 (eI [[0, 1], [1, 0]]) 1 1 := ⟨vA, _, fam2 _ 2 (-2) (by decide +kernel) (by decide +kernel) (by decide +kernel) (by decide +kernel), by decide, by decide⟩
  unfold InA at h
  rw [if_pos e] at h
  obtain ⟨rfl, rfl⟩ := h.2.2.1.uniq hI
  exact ⟨rfl, rfl, h.2.1⟩
set_option maxHeartbeats 4000000 in
theorem awake39 (w : World) : Calls Try.prog 11 #[] w fun e w' => e = .returned (.bool true) ∧ Below w.heap.size w w' := by
  have HA := Lib.hid (AM.lit2 w [0, 1] [1, 0] #[.int .i64 0, .int .i64 1] #[.int .i64 1, .int .i64 0] rfl rfl (by decide) (by decide) (by decide) (by decide))
  go_enter Try.func11, Try.ntmps11
  go_wp2_with fail
  have HBL : Hid (Below w.heap.size w (((w.alloc (.cells #[.int .i64 0, .int .i64 1] 3)).alloc (.cells #[.int .i64 1, .int .i64 0] 3)).alloc (.cells #[.slice (some ⟨w.heap.size, 0, none⟩) 2 2, .slice (some ⟨w.heap.size + 1, 0, none⟩) 2 2] 33))) := (((Below.refl _ _).alloc (Nat.le_refl _) _).alloc (by simp) _).alloc (by simp; omega) _
  simp only [List.length_cons, List.length_nil, Nat.zero_add, Nat.reduceAdd] at HA
  generalize ((w.alloc (.cells #[.int .i64 0, .int .i64 1] 3)).alloc (.cells #[.int .i64 1, .int .i64 0] 3)).alloc (.cells #[.slice (some ⟨w.heap.size, 0, none⟩) 2 2, .slice (some ⟨w.heap.size + 1, 0, none⟩) 2 2] 33) = w0 at HA HBL ⊢
  refine (inertia_any (cap := 2) HA.out).mono ?_
  rintro e w1 ⟨p, q, z, rfl, hA, hb⟩
  obtain ⟨rfl, rfl, rfl⟩ := aw_inA hA
  rw [show inE [[0, 1], [1, 0]] = 0 from by decide +kernel]
  have HB1 := Lib.hid (HBL.out.trans (hb.mono HBL.out.size))
  clear hb HA HBL hA
  go_wp2_with fail
  refine (of_any (c := 3) (S := 2) (ws := [1, 1, 1]) (lit_RI w1 [1, 1, 1] (· ≤ w1.heap.size) (Nat.le_refl _) #[.int .i64 1, .int .i64 1, .int .i64 1] rfl) (fun b hb => by simp; omega) (by decide) (by decide) (by decide)).mono ?_
  rintro e w2 ⟨p, q, rfl, hA, hb⟩
  obtain ⟨rfl, rfl⟩ := aw_ofA hA
  rw [aw_of.1]
  have HB2 := Lib.hid (HB1.out.trans (((Below.refl w1.heap.size w1).alloc (Nat.le_refl _) _).trans (hb.mono (by simp)) |>.mono HB1.out.size))
  clear hb hA
  go_wp2_with fail
  go_ret
  exact ⟨rfl, HB2.out⟩
end Go.Proofs.Yteanhbldhaiekaa

