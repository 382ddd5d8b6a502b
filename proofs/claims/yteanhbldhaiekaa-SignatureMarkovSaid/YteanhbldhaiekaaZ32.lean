/-
  The contract of Signature.
  The contract of signature.Of.
  The examples of the chapter hold.
  The contract of the law's both.
  What the laws of layer 39 say of the contracts' answers, plain.
-/
import Derived.Test.YteanhbldhaiekaaZ31
import Derived.Test.YteanhbldhaiekaaZ29
import Derived.Test.YteanhbldhaiekaaZ20
import Derived.Test.YteanhbldhaiekaaZ30
namespace Go.Proofs.Yteanhbldhaiekaa
open Go.RowKit

/-- what Inertia answers is one -/
theorem InA.uniq {xss : List (List Int)} {p q p' q' : Nat} {z z' : Int} (h : InA xss p q z) (h' : InA xss p' q' z') : p = p' ∧ q = q' ∧ z = z' := by
  unfold InA at h h'
  by_cases e : inE xss = 0
  · rw [if_pos e] at h h'
    obtain ⟨e1, e2⟩ := h.2.2.1.uniq h'.2.2.1
    refine ⟨e1, e2, ?_⟩
    rw [h.2.1, h'.2.1, e1, e2]
  · rw [if_neg e] at h h'
    obtain ⟨rfl, rfl, rfl⟩ := h
    obtain ⟨rfl, rfl, rfl⟩ := h'
    exact ⟨rfl, rfl, rfl⟩
theorem InA.le {xss : List (List Int)} {p q : Nat} {z : Int} (h : InA xss p q z) : p + q ≤ xss.length := by
  unfold InA at h
  by_cases e : inE xss = 0
  · rw [if_pos e] at h; exact h.1
  · rw [if_neg e] at h; omega
set_option maxHeartbeats 1000000 in
theorem signature_any {w : World} {A : Option Addr} {n cap : Nat} {xss : List (List Int)} (h : AM w A n xss) :
    Calls Try.prog 14 #[.slice A n cap] w fun e w' => ∃ (p q : Nat) (z : Int), e = .returned (.tuple #[.int .i64 ((p : Int) - q), .int .i64 (inE xss : Nat)]) ∧ InA xss p q z ∧ Below w.heap.size w w' := by
  have HX := Lib.hid h
  clear h
  go_enter Try.func14, Try.ntmps14
  go_wp2_with fail
  refine (inertia_any HX.out).mono ?_
  rintro e w' ⟨p, q, z, rfl, hA, hb⟩
  have hle := hA.le
  have hnl := HX.out.nl
  have hln := HX.out.ln
  unfold maxLen at hnl
  have HA := Lib.hid hA
  have HB := Lib.hid hb
  have hw : IntKind.i64.wrap ((p : Int) - (q : Int)) = (p : Int) - q := by rw [IntKind.wrap_i64]; omega
  clear hA hb hle hnl hln
  go_wp2_with fail
  go_ret2
  exact ⟨p, q, z, rfl, HA.out, HB.out⟩
end Go.Proofs.Yteanhbldhaiekaa
namespace Go.Proofs.Yteanhbldhaiekaa
open Go.RowKit

/-- the error of Of -/
def ofE (S : Int) (ws : List Int) : Nat := if mxE S ws = 0 then if syE (mxL S ws) = 0 then inE (syL (mxL S ws)) else syE (mxL S ws) else mxE S ws
/-- what Of answers -/
def OfA (S : Int) (ws : List Int) (p q : Nat) : Prop := if ofE S ws = 0 then Inr (syL (mxL S ws)).length (eI (syL (mxL S ws))) p q else p = 0 ∧ q = 0
theorem OfA.uniq {S : Int} {ws : List Int} {p q p' q' : Nat} (h : OfA S ws p q) (h' : OfA S ws p' q') : p = p' ∧ q = q' := by
  unfold OfA at h h'
  by_cases e : ofE S ws = 0
  · rw [if_pos e] at h h'; exact h.uniq h'
  · rw [if_neg e] at h h'; exact ⟨h.1.trans h'.1.symm, h.2.trans h'.2.symm⟩
theorem mxL_le (S : Int) (ws : List Int) : (mxL S ws).length ≤ 64 := by
  unfold mxL
  split
  · rename_i h
    rw [mkL_len]
    unfold mxE at h
    split at h
    · split at h
      · omega
      · omega
    · rename_i h2; exact absurd h h2
  · exact Nat.zero_le _
set_option maxHeartbeats 4000000 in
theorem of_any {w : World} {A : Option Addr} {c : Nat} {S : Int} {ws : List Int} {T : Nat → Prop} (hr : RI w T A ws) (hT : ∀ b, T b → b < w.heap.size) (hl : ws.length ≤ maxLen) (h1 : -9223372036854775808 ≤ S) (h2 : S ≤ 9223372036854775807) :
    Calls Try.prog 20 #[.agg #[.int .i64 S, .slice A ws.length c]] w fun e w' => ∃ p q : Nat, e = .returned (.tuple #[.int .i64 ((p : Int) - q), .int .i64 (ofE S ws : Nat)]) ∧ OfA S ws p q ∧ Below w.heap.size w w' := by
  have hb : Below w.heap.size w (w.alloc (.cells #[.int .i64 S, .slice A ws.length c] 37)) := (Below.refl _ w).alloc (Nat.le_refl _) _
  have HM := Lib.hid (matrix_any (c := c) (hr.keep (w' := w.alloc (.cells #[.int .i64 S, .slice A ws.length c] 37)) fun b hb' => hb.block b (hT b hb')) (fun b hb' => Nat.lt_of_lt_of_le (hT b hb') hb.size) hl h1 h2)
  obtain ⟨c0, c1⟩ := brd_box w S A ws.length c 37
  have HB := Lib.hid hb
  clear hr hT hb
  obtain ⟨W, hW⟩ : ∃ W, w.alloc (.cells #[.int .i64 S, .slice A ws.length c] 37) = W := ⟨_, rfl⟩
  rw [hW] at c0 c1 HB HM
  have HW := Lib.hid hW
  clear hW
  go_enter Try.func20, Try.ntmps20
  go_wp2_with fail
  first
    | rw [HW.out]
    | skip
  refine HM.out.mono ?_
  rintro e w2 ⟨A2, n2, c2, rfl, hb2, ham⟩
  have HB2 := Lib.hid (HB.out.trans (hb2.mono HB.out.size))
  have HAM := Lib.hid ham
  have hn2 : n2 ≤ 64 := by rw [← ham.ln]; exact mxL_le S ws
  clear hb2 ham HB HM HW c0 c1
  by_cases hm : mxE S ws = 0
  · have HE : Hid (ofE S ws = if syE (mxL S ws) = 0 then inE (syL (mxL S ws)) else syE (mxL S ws)) := Lib.hid (by unfold ofE; rw [if_pos hm])
    have HSY := Lib.hid (symmetrized_any (cap := c2) HAM.out (by omega))
    rw [hm]
    clear hm
    go_wp2_with fail
    refine HSY.out.mono ?_
    rintro e w3 ⟨A3, n3, c3, rfl, ham3, hb3⟩
    have HB3 := Lib.hid (HB2.out.trans (hb3.mono HB2.out.size))
    have HSG := Lib.hid (signature_any (cap := c3) ham3)
    clear hb3 ham3 HSY
    by_cases hs : syE (mxL S ws) = 0
    · have HE2 : Hid (ofE S ws = inE (syL (mxL S ws))) := Lib.hid (by rw [HE.out, if_pos hs])
      rw [hs]
      clear hs
      go_wp2_with fail
      refine HSG.out.mono ?_
      rintro e w4 ⟨p, q, z, rfl, hA, hb4⟩
      have HB4 := Lib.hid (HB3.out.trans (hb4.mono HB3.out.size))
      have HO : Hid (OfA S ws p q) := Lib.hid (by
        unfold OfA
        rw [HE2.out]
        unfold InA at hA
        by_cases e : inE (syL (mxL S ws)) = 0
        · rw [if_pos e] at hA ⊢; exact hA.2.2.1
        · rw [if_neg e] at hA ⊢; exact ⟨hA.1, hA.2.1⟩)
      rw [← HE2.out]
      clear hA hb4
      go_wp2_with fail
      go_ret2
      exact ⟨p, q, rfl, HO.out, HB4.out⟩
    · obtain ⟨e, he⟩ : ∃ e, syE (mxL S ws) = e := ⟨_, rfl⟩
      rw [he] at hs ⊢
      have HE2 : Hid (ofE S ws = e) := Lib.hid (by rw [HE.out, he, if_neg hs])
      have z1 : ((e : Int) != 0) = true := by rw [bne_iff_ne]; omega
      clear HE
      go_wp2_with fail
      go_ret2
      exact ⟨0, 0, by rw [HE2.out]; rfl, by unfold OfA; rw [if_neg (by rw [HE2.out]; exact hs)]; exact ⟨rfl, rfl⟩, HB3.out⟩
  · obtain ⟨e, he⟩ : ∃ e, mxE S ws = e := ⟨_, rfl⟩
    rw [he] at hm ⊢
    have HE2 : Hid (ofE S ws = e) := Lib.hid (by unfold ofE; rw [he, if_neg hm])
    have z1 : ((e : Int) != 0) = true := by rw [bne_iff_ne]; omega
    go_wp2_with fail
    go_ret2
    exact ⟨0, 0, by rw [HE2.out]; rfl, by unfold OfA; rw [if_neg (by rw [HE2.out]; exact hm)]; exact ⟨rfl, rfl⟩, HB2.out⟩
end Go.Proofs.Yteanhbldhaiekaa
namespace Go.Proofs.Yteanhbldhaiekaa
open Go.RowKit

/-- two orthogonal vectors: 1 1 and 1 -1 -/
def vA : Mx := eI [[1, 1], [1, -1]]
theorem vA_ind (c : Nat → Int) (h : ∀ m, m < 2 → sI 2 (fun x => c x * vA x m) = 0) : ∀ x, x < 2 → c x = 0 := fun x hx => by
  have h0 : (0 + c 0 * 1) + c 1 * 1 = 0 := h 0 (by decide)
  have h1 : (0 + c 0 * 1) + c 1 * -1 = 0 := h 1 (by decide)
  rcases (show x = 0 ∨ x = 1 by omega) with rfl | rfl <;> omega
theorem fam2 (A : Mx) (a b : Int) (h1 : bil 2 A (vA 0) (vA 1) = 0) (h2 : bil 2 A (vA 1) (vA 0) = 0) (h3 : bil 2 A (vA 0) (vA 0) = a) (h4 : bil 2 A (vA 1) (vA 1) = b) : Fam 2 A vA (fun x => if x = 0 then a else b) 2 :=
  ⟨vA_ind, fun x y hx hy hne => by
    rcases (show (x = 0 ∧ y = 1) ∨ (x = 1 ∧ y = 0) by omega) with ⟨rfl, rfl⟩ | ⟨rfl, rfl⟩
    · exact h1
    · exact h2, fun x hx => by
    rcases (show x = 0 ∨ x = 1 by omega) with rfl | rfl
    · exact h3
    · exact h4⟩
theorem aw_of : ofE 2 [1, 1, 1] = 0 ∧ syL (mxL 2 [1, 1, 1]) = [[-2, 1], [1, -2]] := by decide +kernel
theorem aw_ofA {p q : Nat} (h : OfA 2 [1, 1, 1] p q) : p = 0 ∧ q = 2 := by
  refine h.uniq ?_
  unfold OfA
  rw [if_pos aw_of.1, aw_of.2]
  exact ⟨vA, _, fam2 _ (-2) (-6) (by decide +kernel) (by decide +kernel) (by decide +kernel) (by decide +kernel), by decide, by decide⟩
theorem aw_inA {p q : Nat} {z : Int} (h : InA [[0, 1], [1, 0]] p q z) : p = 1 ∧ q = 1 ∧ z = 0 := by
  have e : inE [[0, 1], [1, 0]] = 0 := by decide +kernel
  have hI : Inr 2 (eI [[0, 1], [1, 0]]) 1 1 := ⟨vA, _, fam2 _ 2 (-2) (by decide +kernel) (by decide +kernel) (by decide +kernel) (by decide +kernel), by decide, by decide⟩
  unfold InA at h
  rw [if_pos e] at h
  obtain ⟨rfl, rfl⟩ := h.2.2.1.uniq hI
  exact ⟨rfl, rfl, h.2.1⟩
set_option maxHeartbeats 4000000 in
theorem awake39 (w : World) : Calls Try.prog 11 #[] w fun e w' => e = .returned (.bool true) ∧ Below w.heap.size w w' := by
  have HA := Lib.hid (AM.lit2 w [0, 1] [1, 0] #[.int .i64 0, .int .i64 1] #[.int .i64 1, .int .i64 0] rfl rfl (by decide) (by decide) (by decide) (by decide))
  go_enter Try.func11, Try.ntmps11
  go_wp2_with fail
  have HBL : Hid (Below w.heap.size w (((w.alloc (.cells #[.int .i64 0, .int .i64 1] 3)).alloc (.cells #[.int .i64 1, .int .i64 0] 3)).alloc (.cells #[.slice (some ⟨w.heap.size, 0, none⟩) 2 2, .slice (some ⟨w.heap.size + 1, 0, none⟩) 2 2] 33))) := (((Below.refl _ _).alloc (Nat.le_refl _) _).alloc (by simp) _).alloc (by simp; omega) _
  simp only [List.length_cons, List.length_nil, Nat.zero_add, Nat.reduceAdd] at HA
  generalize ((w.alloc (.cells #[.int .i64 0, .int .i64 1] 3)).alloc (.cells #[.int .i64 1, .int .i64 0] 3)).alloc (.cells #[.slice (some ⟨w.heap.size, 0, none⟩) 2 2, .slice (some ⟨w.heap.size + 1, 0, none⟩) 2 2] 33) = w0 at HA HBL ⊢
  refine (inertia_any (cap := 2) HA.out).mono ?_
  rintro e w1 ⟨p, q, z, rfl, hA, hb⟩
  obtain ⟨rfl, rfl, rfl⟩ := aw_inA hA
  rw [show inE [[0, 1], [1, 0]] = 0 from by decide +kernel]
  have HB1 := Lib.hid (HBL.out.trans (hb.mono HBL.out.size))
  clear hb HA HBL hA
  go_wp2_with fail
  refine (of_any (c := 3) (S := 2) (ws := [1, 1, 1]) (lit_RI w1 [1, 1, 1] (· ≤ w1.heap.size) (Nat.le_refl _) #[.int .i64 1, .int .i64 1, .int .i64 1] rfl) (fun b hb => by simp; omega) (by decide) (by decide) (by decide)).mono ?_
  rintro e w2 ⟨p, q, rfl, hA, hb⟩
  obtain ⟨rfl, rfl⟩ := aw_ofA hA
  rw [aw_of.1]
  have HB2 := Lib.hid (HB1.out.trans (((Below.refl w1.heap.size w1).alloc (Nat.le_refl _) _).trans (hb.mono (by simp)) |>.mono HB1.out.size))
  clear hb hA
  go_wp2_with fail
  go_ret
  exact ⟨rfl, HB2.out⟩
end Go.Proofs.Yteanhbldhaiekaa
namespace Go.Proofs.Yteanhbldhaiekaa
open Go.RowKit

/-- all entries at most 50 -/
def Le50 (xss : List (List Int)) : Prop := ∀ i, i < xss.length → ∀ j, j < xss.length → -50 ≤ eI xss i j ∧ eI xss i j ≤ 50
instance (xss : List (List Int)) : Decidable (Le50 xss) := by unfold Le50; infer_instance
/-- what both answers -/
def boL (xss : List (List Int)) : List (List Int) := if SqA xss ∧ grB xss = false ∧ Le50 xss then syM xss else []
def sRow (xss : List (List Int)) (i k : Nat) : List Int := (List.range k).map fun j => IntKind.i64.wrap (eI xss i j + eI xss j i)
def sRows (xss : List (List Int)) (n i : Nat) : List (List Int) := (List.range i).map fun i => sRow xss i n
theorem sRow_succ (xss : List (List Int)) (i k : Nat) : sRow xss i (k + 1) = sRow xss i k ++ [IntKind.i64.wrap (eI xss i k + eI xss k i)] := by simp [sRow, List.range_succ]
theorem sRow_len (xss : List (List Int)) (i k : Nat) : (sRow xss i k).length = k := by simp [sRow]
theorem sRows_succ (xss : List (List Int)) (n i : Nat) : sRows xss n (i + 1) = sRows xss n i ++ [sRow xss i n] := by simp [sRows, List.range_succ]
theorem sRows_len (xss : List (List Int)) (n i : Nat) : (sRows xss n i).length = i := by simp [sRows]
theorem sRows_syM {xss : List (List Int)} {n : Nat} (h : xss.length = n) (h5 : Le50 xss) : sRows xss n n = syM xss := by
  unfold sRows syM mkL sRow
  rw [h]
  refine List.map_congr_left fun i hi => List.map_congr_left fun j hj => ?_
  have hi' := List.mem_range.1 hi
  have hj' := List.mem_range.1 hj
  have a := h5 i (by rw [h]; exact hi') j (by rw [h]; exact hj')
  have b := h5 j (by rw [h]; exact hj') i (by rw [h]; exact hi')
  rw [IntKind.wrap_i64]
  dsimp only
  omega
/-- the answer is a matrix that can be handed on -/
def AmP (w : World) (l : List (List Int)) (e : Ending) (w' : World) : Prop := ∃ A' n' c', e = .returned (.slice A' n' c') ∧ AM w' A' n' l ∧ Below w.heap.size w w'
set_option maxHeartbeats 8000000 in
theorem both_any {w : World} {A : Option Addr} {n cap : Nat} {xss : List (List Int)} (h : AM w A n xss) :
    Calls Try.prog 19 #[.slice A n cap] w (AmP w (boL xss)) := by
  have HX := Lib.hid h
  have HN := Lib.hid h.ln
  have HSQ := Lib.hid (lsquare_any (cap := cap) h)
  have HGR := Lib.hid (great_any (cap := cap) h)
  clear h
  go_enter Try.func19, Try.ntmps19
  go_wp2_with fail
  refine HSQ.out.mono ?_
  rintro e w1 ⟨rfl, rfl⟩
  by_cases hq : SqA xss
  · rw [decide_eq_true hq]
    go_wp2_with fail
    refine HGR.out.mono ?_
    rintro e w1 ⟨rfl, rfl⟩
    by_cases hg : grB xss = false
    · rw [hg]
      have HALL : Hid (∀ i, i < n → rowL xss i = n) := Lib.hid fun i hi => by have := hq i (by rw [HN.out]; exact hi); rw [HN.out] at this; exact this
      have hn6 : n ≤ 6 := Classical.byContradiction fun hlt => by
        have := grB_iff.2 (Or.inl (by rw [HN.out]; omega) : Grt xss)
        rw [hg] at this
        cases this
      have HBO : Hid (boL xss = if Le50 xss then syM xss else []) := Lib.hid (by
        unfold boL
        by_cases h5 : Le50 xss
        · rw [if_pos ⟨hq, hg, h5⟩, if_pos h5]
        · rw [if_neg fun h => h5 h.2.2, if_neg h5])
      clear hq hg HSQ HGR
      go_wp2_with fail
      go_loopw [3, 16] (fun v i' wr => ∃ i : Nat, i ≤ n ∧ i' = .int .i64 i ∧ Hid (RR 33 wr w.heap.size (fun _ => False) v (sRows xss n i)) ∧ Hid (Below w.heap.size w wr) ∧ Hid (∀ a, a < i → ∀ b, b < n → -50 ≤ eI xss a b ∧ eI xss a b ≤ 50)) (fun _ i _ => n - (intOf i).toNat)
      case atStart => exact ⟨0, Nat.zero_le _, rfl, RR.nil _ _ _, Below.refl _ _, fun a ha => by omega⟩
      case round =>
        obtain ⟨i, hi, rfl, HR, HB, HP⟩ := hrel
        by_cases hlt : i < n
        · go_wp2_with fail
          obtain ⟨w2, rfl⟩ : ∃ x : World, x = wr := ⟨_, rfl⟩
          have hs2 := HB.out.size
          go_loopw [5, 21] (fun v k' wr => ∃ k : Nat, k ≤ n ∧ k' = .int .i64 k ∧ Hid (OI wr w2.heap.size v (sRow xss i k)) ∧ Hid (Below w2.heap.size w2 wr) ∧ Hid (∀ b, b < k → -50 ≤ eI xss i b ∧ eI xss i b ≤ 50)) (fun _ k _ => n - (intOf k).toNat)
          case atStart => exact ⟨0, Nat.zero_le _, rfl, OR.nil _ _, Below.refl _ _, fun a ha => by omega⟩
          case round =>
            obtain ⟨k, hk, rfl, HO, HC, HPK⟩ := hrel
            by_cases hltk : k < n
            · have HXr := Lib.hid (HX.out.call (HB.out.trans (HC.out.mono hs2)))
              obtain ⟨b1, o1, Ai, ci, rfl, c1, hri⟩ := HXr.out.head hlt
              obtain ⟨b2, o2, Ak, ck, e2, c2, hrk⟩ := HXr.out.head hltk
              injection e2 with e2
              injection e2 with e2 e3 _
              subst e2 e3
              rw [HALL.out i hlt] at c1
              rw [HALL.out k hltk] at c2
              obtain ⟨b3, o3, rfl, hb3, hc3⟩ := hri.at_ (k := k) (by have := HALL.out i hlt; unfold rowL at this; omega)
              have c3 := hc3 k (by have := HALL.out i hlt; unfold rowL at this; omega)
              obtain ⟨b4, o4, rfl, hb4, hc4⟩ := hrk.at_ (k := i) (by have := HALL.out k hltk; unfold rowL at this; omega)
              have c4 := hc4 i (by have := HALL.out k hltk; unfold rowL at this; omega)
              have hb1 : b1 < wr.heap.size := World.block_lt_of_cell? _ _ c1
              obtain ⟨x, hx⟩ : ∃ x, gi (xss.getD i []) k = x := ⟨_, rfl⟩
              obtain ⟨y, hy⟩ : ∃ y, gi (xss.getD k []) i = y := ⟨_, rfl⟩
              have hxe : eI xss i k = x := hx
              have hye : eI xss k i = y := hy
              rw [hx] at c3
              rw [hy] at c4
              have HNO : Hid (¬ (-50 ≤ x ∧ x ≤ 50) → boL xss = []) := Lib.hid fun hno => by
                rw [HBO.out, if_neg fun h => hno (by have := h i (by rw [HN.out]; exact hlt) k (by rw [HN.out]; exact hltk); rw [hxe] at this; exact this)]
              have HYR : Hid (-9223372036854775808 ≤ y ∧ y ≤ 9223372036854775807) := Lib.hid (by have := HX.out.rg k i hltk (by rw [HALL.out k hltk]; exact hlt); rw [hye] at this; exact this)
              have HBW := Lib.hid (HB.out.trans (HC.out.mono hs2))
              by_cases g1 : 50 < x
              · have HN0 := Lib.hid (HNO.out (by omega))
                clear hri hrk hc3 hc4 HXr hx hy hxe hye
                go_wp2_with fail
                go_ret
                exact ⟨_, _, _, rfl, by rw [HN0.out]; exact AM.nil0 _, HBW.out⟩
              · by_cases g2 : x < -50
                · have HN0 := Lib.hid (HNO.out (by omega))
                  clear hri hrk hc3 hc4 HXr hx hy hxe hye
                  go_wp2_with fail
                  go_ret
                  exact ⟨_, _, _, rfl, by rw [HN0.out]; exact AM.nil0 _, HBW.out⟩
                · have HPK2 : Hid (∀ b, b < k + 1 → -50 ≤ eI xss i b ∧ eI xss i b ≤ 50) := Lib.hid fun b hb => by
                    by_cases e : b = k
                    · rw [e, hxe]; omega
                    · exact HPK.out b (by omega)
                  obtain ⟨v5, hv5⟩ : ∃ v5, IntKind.i64.wrap (x + y) = v5 := ⟨_, rfl⟩
                  have HSU : Hid (sRow xss i k ++ [v5] = sRow xss i (k + 1)) := Lib.hid (by rw [sRow_succ, hxe, hye, hv5])
                  obtain ⟨xs, hxs⟩ : ∃ xs, sRow xss i k = xs := ⟨_, rfl⟩
                  have hxl : xs.length = k := by rw [← hxs, sRow_len]
                  rw [hxs] at HSU HO
                  have HLN : Hid (xs.length < 1099511627776) := Lib.hid (by omega)
                  have HSZ := Lib.hid HC.out.size
                  obtain ⟨A5, k5, hvv, -, -, -⟩ := HO.out.shape
                  rw [hxl] at hvv
                  subst hvv
                  clear hri hrk hc3 hc4 HXr hx hy hxe hye hxs HBW HNO HPK hxl HYR
                  go_wp2_with fail
                  apply share
                  case h =>
                    intro key
                    go_region_law ((refine step_app_row (w := wr.drew) int_info rfl (by decide) rfl HO.out HLN.out HSZ.out rfl rfl Try.underlying33 rfl rfl ?_; intro v6 w6 ho6 hg6 hob6))
                    all_goals
                      rw [HSU.out] at ho6
                      have hb6 : Below w2.heap.size w2 w6 := OR.grown_below (w := wr.drew) HO.out HC.out.drew HSZ.out _ hg6
                      clear hg6 hob6
                      revert v6 w6
                      exact key
                  case g =>
                    intro v6 w6 ho6 hb6
                    have HO6 := Lib.hid ho6
                    have HB6 := Lib.hid hb6
                    clear ho6 hb6 c1 c2 c3 c4 hb1 hb3 hb4 HO HSU
                    go_wp2_with fail
                    go_roundw
                    case rel => exact ⟨k + 1, by omega, by go_num, HO6, HB6, HPK2⟩
                    case measure => simp [intOf]; omega
            · obtain rfl : k = n := by omega
              obtain ⟨Au, cu, rfl, -, -, -⟩ := HO.out.shape
              obtain ⟨vs, hvs⟩ := (HR.out.below HC.out (Nat.le_refl _))
              have HV := Lib.hid hvs
              have hvl : vs.length < 1099511627776 := by have := hvs.2.2.1; rw [sRows_len] at this; omega
              have HVL := Lib.hid hvl
              have HBW := Lib.hid (HB.out.trans (HC.out.mono hs2))
              have hszw := HBW.out.size
              clear hvs hvl
              go_wp2_with (at_builtin; refine app_row (f := id) (y := Value.slice Au (sRow xss i k).length cu) row_info rfl (by decide) rfl HV.out.1 HVL.out hszw rfl rfl Try.underlying22 rfl rfl ?_; intro v' w' ho hg hob)
              have hR := RRv.push (by decide) HV.out (HO.out.mono hs2) (fun _ _ h => h) (fun b hF => hF.elim) ho hg hob
              have HBN := Lib.hid (HV.out.1.grown_below HBW.out hszw _ hg)
              have HR2 : Hid (RR 33 w' w.heap.size (fun _ => False) v' (sRows xss k (i + 1))) := by
                rw [sRows_succ]; exact ⟨_, hR⟩
              have HP2 : Hid (∀ a, a < i + 1 → ∀ b, b < k → -50 ≤ eI xss a b ∧ eI xss a b ≤ 50) := Lib.hid fun a ha b hb => by
                by_cases e : a = i
                · subst e; exact HPK.out b hb
                · exact HP.out a (by omega) b hb
              clear ho hg hob hR
              go_roundw
              case rel => exact ⟨i + 1, by omega, by go_num, HR2, HBN, HP2⟩
              case measure => simp [intOf]; omega
        · obtain rfl : i = n := by omega
          have h5 : Le50 xss := fun a ha b hb => HP.out a (by rw [HN.out] at ha; exact ha) b (by rw [HN.out] at hb; exact hb)
          have hbo : boL xss = syM xss := by rw [HBO.out, if_pos h5]
          have hr := HR.out
          rw [sRows_syM HN.out h5, ← hbo] at hr
          obtain ⟨A', c', rfl, ha⟩ := hr.am (fun a b ha hb => by
            rw [hbo] at ha hb ⊢
            have e : (syM xss).length = xss.length := mkL_len _ _ _
            rw [e] at ha
            have e2 : rowL (syM xss) a = xss.length := mkL_rowL ha
            rw [e2] at hb
            have e3 : eI (syM xss) a b = eI xss a b + eI xss b a := mkL_eI ha hb
            rw [e3]
            have := h5 a ha b hb
            have := h5 b hb a ha
            omega)
          have HA := Lib.hid ha
          clear hr ha h5 hbo
          go_wp2_with fail
          go_ret
          exact ⟨_, _, _, rfl, HA.out, HB.out⟩
    · have hg' : grB xss = true := by cases h : grB xss; exact absurd h hg; rfl
      have HE : Hid (boL xss = []) := Lib.hid (by unfold boL; rw [if_neg fun h => hg h.2.1])
      rw [hg']
      go_wp2_with fail
      go_ret
      exact ⟨_, _, _, rfl, by rw [HE.out]; exact AM.nil0 _, Below.refl _ _⟩
  · have HE : Hid (boL xss = []) := Lib.hid (by unfold boL; rw [if_neg fun h => hq h.1])
    rw [decide_eq_false hq]
    go_wp2_with fail
    go_ret
    exact ⟨_, _, _, rfl, by rw [HE.out]; exact AM.nil0 _, Below.refl _ _⟩
end Go.Proofs.Yteanhbldhaiekaa
namespace Go.Proofs.Yteanhbldhaiekaa
open Go.RowKit

theorem syM_len (xss : List (List Int)) : (syM xss).length = xss.length := mkL_len _ _ _
theorem syM_row {xss : List (List Int)} {i : Nat} (hi : i < xss.length) : rowL (syM xss) i = xss.length := mkL_rowL hi
theorem syM_eI {xss : List (List Int)} {i j : Nat} (hi : i < xss.length) (hj : j < xss.length) : eI (syM xss) i j = eI xss i j + eI xss j i := mkL_eI hi hj
theorem syM_IsM {xss : List (List Int)} (h : xss.length ≤ 64) : IsM (syM xss) := mkL_IsM h h
theorem syM_SqS (xss : List (List Int)) : SqS (syM xss) := ⟨fun i hi => by rw [syM_len] at hi ⊢; exact syM_row hi, fun i hi j hj => by
  rw [syM_len] at hi
  rw [syM_eI hi (by omega), syM_eI (by omega) hi]
  omega⟩
/-- what both answers: not more than 6 rows, symmetric, small numbers -/
theorem bo_all (xss : List (List Int)) : (boL xss).length ≤ 6 ∧ IsM (boL xss) ∧ SqS (boL xss) ∧ ∀ i j, i < (boL xss).length → j < (boL xss).length → -100 ≤ eI (boL xss) i j ∧ eI (boL xss) i j ≤ 100 := by
  unfold boL
  split
  · rename_i h
    have h6 : xss.length ≤ 6 := Classical.byContradiction fun hlt => by
      have := grB_iff.2 (Or.inl (by omega) : Grt xss)
      rw [h.2.1] at this
      cases this
    refine ⟨by rw [syM_len]; exact h6, syM_IsM (by omega), syM_SqS _, fun i j hi hj => ?_⟩
    rw [syM_len] at hi hj
    rw [syM_eI hi hj]
    have := h.2.2 i hi j hj
    have := h.2.2 j hj i hi
    omega
  · exact ⟨Nat.zero_le _, ⟨fun i hi => absurd hi (Nat.not_lt_zero _), by decide, by decide⟩, ⟨fun i hi => absurd hi (Nat.not_lt_zero _), fun i hi => absurd hi (Nat.not_lt_zero _)⟩, fun i j hi => absurd hi (Nat.not_lt_zero _)⟩
theorem in_09 {x : List (List Int)} (h1 : IsM x) (h2 : SqS x) : inE x = 0 ∨ inE x = 9 := by
  unfold inE
  rw [if_pos ⟨h1, h2⟩]
  split
  · exact .inl rfl
  · exact .inr rfl
theorem in_0 {x : List (List Int)} (h : inE x = 0) : IsM x ∧ SqS x ∧ Sml x := by
  unfold inE at h
  split at h
  · rename_i h1
    split at h
    · rename_i h2; exact ⟨h1.1, h1.2, h2⟩
    · cases h
  · cases h
/-- the rank and the determinant are there too -/
theorem in_rk {x : List (List Int)} {p q r : Nat} {z : Int} (h : inE x = 0) (hA : InA x p q z) (hr : rkR x r) : rkE x = 0 ∧ dtE x = 0 ∧ r = p + q ∧ z = (x.length : Int) - p - q ∧ p + q ≤ x.length ∧ (dtV x = 0 ↔ p + q < x.length) ∧ (p + q = x.length → (0 < dtV x ↔ q % 2 = 0)) := by
  obtain ⟨h1, h2, h3⟩ := in_0 h
  unfold InA at hA
  rw [if_pos h] at hA
  obtain ⟨a1, a2, a3, a4, a5⟩ := hA
  have hc : x.length = rowL x 0 := by
    rcases Nat.eq_zero_or_pos x.length with h0 | h0
    · rw [rowL_nil h0, h0]
    · rw [h2.1 0 h0]
  have e1 : rkE x = 0 := by unfold rkE; rw [if_pos h1, if_pos h3]
  have e2 : dtE x = 0 := by unfold dtE; rw [if_pos ⟨h1, hc⟩, if_pos h3]
  have e3 : dtV x = det x.length (eI x) := by unfold dtV; rw [if_pos e2]
  unfold rkR at hr
  rw [if_pos e1, ← hc] at hr
  refine ⟨e1, e2, hr.uniq a4, a2, a1, ?_, fun h => by rw [e3]; exact (a5 h).2⟩
  rw [e3]
  constructor
  · intro h0
    exact Classical.byContradiction fun hlt => (a5 (by omega)).1 h0
  · intro hlt
    have := a4.up.ups (x.length - (p + q + 1))
    rw [show p + q + 1 + (x.length - (p + q + 1)) = x.length by omega] at this
    exact Int.zero_dvd.1 (this id id (fun _ h => h) fun _ h => h)
end Go.Proofs.Yteanhbldhaiekaa
