/-
  A diagram that came in by value, as the law's frame tells it, reads as two lists and a number.
  A braid that came in by value.
  The law SignatureOf, walked: the call returns true and writes nothing that was there.
-/
import Derived.Test.YteanhbldhaiekaaZ02
import Derived.Test.YteanhbldhaiekaaZ32
import Derived.Test.YteanhbldhaiekaaZ24
import Derived.Lib.SmallJoins
import Derived.ProofKit
namespace Go.Proofs.Yteanhbldhaiekaa
open Go.ChangeShapes Go.WideShapes Go.RowKit Go.Joins

/-- what the walk is told of a diagram -/
structure DArg (w : World) (A1 A2 : Option Addr) (sg mt : List Int) (L : Int) : Prop where
  rs : RI w (· < w.heap.size) A1 sg
  rm : RI w (· < w.heap.size) A2 mt
  ls : sg.length ≤ maxLen
  lm : mt.length ≤ maxLen
  bs : ∀ k, -9223372036854775808 ≤ gi sg k ∧ gi sg k ≤ 9223372036854775807
  bm : ∀ k, -9223372036854775808 ≤ gi mt k ∧ gi mt k ≤ 9223372036854775807
  bl : -9223372036854775808 ≤ L ∧ L ≤ 9223372036854775807

theorem int_wf {n : Int} (h : (Lit.int .i64 n).wf = true) : -9223372036854775808 ≤ n ∧ n ≤ 9223372036854775807 := by
  have hmin : IntKind.i64.min = -9223372036854775808 := rfl
  have hmax : IntKind.i64.max = 9223372036854775807 := rfl
  simp only [Lit.wf, Bool.and_eq_true, decide_eq_true_eq] at h
  omega

theorem slice_open {H : Type} {enc : TypeId × Value → H} {W : World} {base n : Nat} {held : Bool} {x : Value} {y : DataW H × List MemPlace}
    (g : DataW.trod enc Try.prog W base (fun _ => true) held n 33 [x] = some y) : ∃ A l c zs, x = .slice A l c ∧ ((A = none ∧ l = 0 ∧ c = 0 ∧ zs = []) ∨ ∃ a, A = some a ∧ l ≤ c ∧ c ≤ maxLen ∧ zs.length = c ∧ (∀ i, i < zs.length → W.cell? (a.add i) = some (.int .i64 (zs.getD i 0))) ∧ ∀ n ∈ zs, (Lit.int .i64 n).wf = true) := by
  rcases open_ints Try.underlying33 Try.underlying3 (by kernel_rfl) g with ⟨hcs, _⟩ | ⟨a, l, c, zs, hcs, _, hl, hm, hz, _, hcell, hwz⟩
  · injection hcs with hcs
    exact ⟨none, 0, 0, [], hcs, .inl ⟨rfl, rfl, rfl, rfl⟩⟩
  · injection hcs with hcs
    exact ⟨some a, l, c, zs, hcs, .inr ⟨a, rfl, hl, hm, by simpa using hz, hcell, hwz⟩⟩

end Go.Proofs.Yteanhbldhaiekaa
namespace Go.Proofs.Yteanhbldhaiekaa
open Go.ChangeShapes Go.WideShapes Go.RowKit Go.Joins

/-- what the walk is told of a braid -/
structure BArg (w : World) (A : Option Addr) (S : Int) (ws : List Int) : Prop where
  rs : RI w (· < w.heap.size) A ws
  ls : ws.length ≤ maxLen
  bs : ∀ k, -9223372036854775808 ≤ gi ws k ∧ gi ws k ≤ 9223372036854775807
  bl : -9223372036854775808 ≤ S ∧ S ≤ 9223372036854775807
set_option maxRecDepth 100000 in
theorem barg_open {H : Type} {enc : TypeId × Value → H} {W : World} {base b0 : Nat} {held : Bool} {r : Reach} {v : Value} {d : DataW H} {p : List MemPlace} (hv : Value.okWide Try.prog W r b0 37 v)
    (h : DataW.Trod enc Try.prog W base (fun _ => true) held 37 v d p) : ∃ A c S ws, v = .agg #[.int .i64 S, .slice A ws.length c] ∧ BArg W A S ws := by
  obtain ⟨x0, x1, y0, y1, n0, rfl, -, -, g0, g1⟩ := open_agg2 Try.underlying37 (by kernel_rfl) (by kernel_rfl) hv h
  obtain ⟨L, hL, -, wL⟩ := DataW.trod_int Try.underlying3 g0
  injection hL with hL
  subst hL
  obtain ⟨A1, l1, c1, z1, rfl, w1⟩ := slice_open g1
  obtain ⟨xs, rfl, r1, m1, b1⟩ := row_RI w1
  exact ⟨A1, c1, L, xs, rfl, r1, m1, b1, int_wf wL⟩
theorem BArg.call {w w' : World} {A : Option Addr} {S : Int} {ws : List Int} (h : BArg w A S ws) (hb : Below w.heap.size w w') : BArg w' A S ws :=
  ⟨(h.rs.keep fun b hl => hb.block b hl).imp fun _ hl => Nat.lt_of_lt_of_le hl hb.size, h.ls, h.bs, h.bl⟩
theorem BArg.of {w : World} {A : Option Addr} {c : Nat} {S : Int} {ws : List Int} (h : BArg w A S ws) :
    Calls Try.prog 20 #[.agg #[.int .i64 S, .slice A ws.length c]] w fun e w' => ∃ p q : Nat, e = .returned (.tuple #[.int .i64 ((p : Int) - q), .int .i64 (ofE S ws : Nat)]) ∧ OfA S ws p q ∧ Below w.heap.size w w' :=
  of_any h.rs (fun _ hb => hb) h.ls h.bl.1 h.bl.2
theorem BArg.mat {w : World} {A : Option Addr} {c : Nat} {S : Int} {ws : List Int} (h : BArg w A S ws) :
    Calls Try.prog 21 #[.agg #[.int .i64 S, .slice A ws.length c]] w fun e w' => ∃ A' n c', e = .returned (.tuple #[.slice A' n c', .int .i64 (mxE S ws : Nat)]) ∧ Below w.heap.size w w' ∧ AM w' A' n (mxL S ws) :=
  matrix_any h.rs (fun _ hb => hb) h.ls h.bl.1 h.bl.2
/-- a box of a braid lies on and on -/
theorem brd_kept {w w1 w' : World} {g : Nat} {o p : Value} (h : w.cell? ⟨g, 0, none⟩ = some o ∧ w.cell? ⟨g, 1, none⟩ = some p) (hg : g < w.heap.size) (hb : Below w1.heap.size w1 w') (hs : w.heap.size ≤ w1.heap.size) (e : w1.heap[g]? = w.heap[g]?) : w'.cell? ⟨g, 0, none⟩ = some o ∧ w'.cell? ⟨g, 1, none⟩ = some p := by
  have k : w'.heap[g]? = w.heap[g]? := (hb.block g (Nat.lt_of_lt_of_le hg hs)).trans e
  exact ⟨(World.cell?_of_block (a := ⟨g, 0, none⟩) k).trans h.1, (World.cell?_of_block (a := ⟨g, 1, none⟩) k).trans h.2⟩
section
variable (A : Option Addr) (c : Nat) (S : Int) (ws : List Int) (w : World) (h : BArg w A S ws)
include h
set_option maxHeartbeats 8000000 in
theorem sof_a (hg : 12 < ws.length ∨ (5 < S ∧ S ≤ 10)) : Calls Try.prog 6 #[.agg #[.int .i64 S, .slice A ws.length c]] w fun e w' => e = .returned (.bool true) ∧ Below w.heap.size w w' := by
  have hb : Below w.heap.size w (w.alloc (.cells #[.int .i64 S, .slice A ws.length c] 37)) := (Below.refl _ w).alloc (Nat.le_refl _) _
  obtain ⟨c0, c1⟩ := brd_box w S A ws.length c 37
  have HB := Lib.hid hb
  have hS := h.bl
  have hsz : w.heap.size < (w.alloc (.cells #[.int .i64 S, .slice A ws.length c] 37)).heap.size := by simp
  obtain ⟨W, hW⟩ : ∃ W, w.alloc (.cells #[.int .i64 S, .slice A ws.length c] 37) = W := ⟨_, rfl⟩
  rw [hW] at c0 c1 HB hsz
  have HW := Lib.hid hW
  clear hW hb h
  go_enter Try.func6, Try.ntmps6
  go_wp2_with fail
  rw [HW.out]
  refine (awake39 W).mono ?_
  rintro e w1 ⟨rfl, hb⟩
  have HB1 := Lib.hid (HB.out.trans (hb.mono HB.out.size))
  obtain ⟨d0, d1⟩ := brd_kept ⟨c0, c1⟩ hsz hb (Nat.le_refl _) rfl
  clear hb c0 c1 HW HB
  by_cases h1 : 12 < ws.length
  · clear hg
    go_wp2_with fail
    go_ret
    exact ⟨rfl, HB1.out⟩
  · obtain ⟨g1, g2⟩ := hg.resolve_left h1
    go_wp2_with fail
    go_ret
    exact ⟨rfl, HB1.out⟩
set_option maxHeartbeats 8000000 in
theorem sof_b (hg : ¬ (12 < ws.length ∨ (5 < S ∧ S ≤ 10))) : Calls Try.prog 6 #[.agg #[.int .i64 S, .slice A ws.length c]] w fun e w' => e = .returned (.bool true) ∧ Below w.heap.size w w' := by
  have hb : Below w.heap.size w (w.alloc (.cells #[.int .i64 S, .slice A ws.length c] 37)) := (Below.refl _ w).alloc (Nat.le_refl _) _
  obtain ⟨c0, c1⟩ := brd_box w S A ws.length c 37
  have HA := Lib.hid (h.call hb)
  have HB := Lib.hid hb
  have hS := h.bl
  have hsz : w.heap.size < (w.alloc (.cells #[.int .i64 S, .slice A ws.length c] 37)).heap.size := by simp
  obtain ⟨W, hW⟩ : ∃ W, w.alloc (.cells #[.int .i64 S, .slice A ws.length c] 37) = W := ⟨_, rfl⟩
  rw [hW] at c0 c1 HB hsz HA
  have HW := Lib.hid hW
  clear hW hb h
  go_enter Try.func6, Try.ntmps6
  go_wp2_with fail
  rw [HW.out]
  refine (awake39 W).mono ?_
  rintro e w1 ⟨rfl, hb⟩
  have HB1 := Lib.hid (HB.out.trans (hb.mono HB.out.size))
  have HA1 := Lib.hid (HA.out.call hb)
  have hs1 := Nat.lt_of_lt_of_le hsz hb.size
  obtain ⟨d0, d1⟩ := brd_kept ⟨c0, c1⟩ hsz hb (Nat.le_refl _) rfl
  clear hb c0 c1 HW HB HA hsz
  obtain ⟨h1, h2⟩ := not_or.1 hg
  have HOF := Lib.hid (HA1.out.of (c := c))
  have hG : (5 < S ∧ 10 < S) ∨ S ≤ 5 := by omega
  clear hg h2
  rcases hG with ⟨g1, g2⟩ | g1
  all_goals
    go_wp2_with fail
    refine HOF.out.mono ?_
    rintro e w2 ⟨p, q, rfl, hO, hb⟩
    have HO := Lib.hid hO
    have HB2 := Lib.hid (HB1.out.trans (hb.mono HB1.out.size))
    have HMX := Lib.hid ((HA1.out.call hb).mat (c := c))
    obtain ⟨c0, c1⟩ := brd_kept ⟨d0, d1⟩ hs1 hb (Nat.le_refl _) rfl
    clear hO hb d0 d1 HOF HA1 hs1
    go_wp2_with fail
    refine HMX.out.mono ?_
    rintro e w3 ⟨A3, n3, c3, rfl, hb, ham⟩
    have HB3 := Lib.hid (HB2.out.trans (hb.mono HB2.out.size))
    have HAM := Lib.hid ham
    have hn3 : n3 ≤ 64 := by rw [← ham.ln]; exact mxL_le S ws
    clear hb ham HB2 HMX c0 c1
    by_cases hm : mxE S ws = 0
    · have HE : Hid (ofE S ws = if syE (mxL S ws) = 0 then inE (syL (mxL S ws)) else syE (mxL S ws)) := Lib.hid (by unfold ofE; rw [if_pos hm])
      have HSY := Lib.hid (symmetrized_any (cap := c3) HAM.out (by omega))
      rw [hm]
      clear hm
      go_wp2_with fail
      refine HSY.out.mono ?_
      rintro e w4 ⟨A4, n4, c4, rfl, ham4, hb4⟩
      have HB4 := Lib.hid (HB3.out.trans (hb4.mono HB3.out.size))
      have HSG := Lib.hid (signature_any (cap := c4) ham4)
      clear hb4 ham4 HSY HB3 HAM
      by_cases hs : syE (mxL S ws) = 0
      · have HE2 : Hid (ofE S ws = inE (syL (mxL S ws))) := Lib.hid (by rw [HE.out, if_pos hs])
        rw [hs]
        clear hs HE
        go_wp2_with fail
        refine HSG.out.mono ?_
        rintro e w5 ⟨p', q', z, rfl, hA, hb5⟩
        have HB5 := Lib.hid (HB4.out.trans (hb5.mono HB4.out.size))
        have hpq : p' = p ∧ q' = q := by
          have ho := HO.out
          unfold OfA at ho
          rw [HE2.out] at ho
          unfold InA at hA
          by_cases e : inE (syL (mxL S ws)) = 0
          · rw [if_pos e] at hA ho
            exact hA.2.2.1.uniq ho
          · rw [if_neg e] at hA ho
            exact ⟨hA.1.trans ho.1.symm, hA.2.1.trans ho.2.symm⟩
        obtain ⟨rfl, rfl⟩ := hpq
        rw [HE2.out]
        clear hA hb5 HE2 HO
        go_wp2_with fail
        go_ret
        exact ⟨rfl, HB5.out⟩
      · obtain ⟨e, he⟩ : ∃ e, syE (mxL S ws) = e := ⟨_, rfl⟩
        rw [he] at hs ⊢
        have HE2 : Hid (ofE S ws = e) := Lib.hid (by rw [HE.out, he, if_neg hs])
        have hpq : p = 0 ∧ q = 0 := by
          have ho := HO.out
          unfold OfA at ho
          rw [HE2.out, if_neg hs] at ho
          exact ho
        obtain ⟨rfl, rfl⟩ := hpq
        have z1 : ((e : Int) != 0) = true := by rw [bne_iff_ne]; omega
        rw [HE2.out]
        clear HE he HO HE2
        go_wp2_with fail
        go_ret
        exact ⟨rfl, HB4.out⟩
    · obtain ⟨e, he⟩ : ∃ e, mxE S ws = e := ⟨_, rfl⟩
      rw [he] at hm ⊢
      have HE2 : Hid (ofE S ws = e) := Lib.hid (by unfold ofE; rw [he, if_neg hm])
      have hpq : p = 0 ∧ q = 0 := by
        have ho := HO.out
        unfold OfA at ho
        rw [HE2.out, if_neg hm] at ho
        exact ho
      obtain ⟨rfl, rfl⟩ := hpq
      have z1 : ((e : Int) != 0) = true := by rw [bne_iff_ne]; omega
      rw [HE2.out]
      clear he HO HE2
      go_wp2_with fail
      go_ret
      exact ⟨rfl, HB3.out⟩
end
theorem signatureOf_walk (A : Option Addr) (c : Nat) (S : Int) (ws : List Int) (w : World) (h : BArg w A S ws) : Calls Try.prog 6 #[.agg #[.int .i64 S, .slice A ws.length c]] w fun e w' => e = .returned (.bool true) ∧ Below w.heap.size w w' := by
  by_cases hg : 12 < ws.length ∨ (5 < S ∧ S ≤ 10)
  · exact sof_a A c S ws w h hg
  · exact sof_b A c S ws w h hg
end Go.Proofs.Yteanhbldhaiekaa
