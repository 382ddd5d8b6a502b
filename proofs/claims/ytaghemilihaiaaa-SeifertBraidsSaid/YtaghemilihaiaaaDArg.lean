/-
  A diagram that came in by value, as the law's frame tells it, reads as two lists and a number.
-/
import Derived.Test.YtaghemilihaiaaaArg
import Derived.Lib.SmallJoins
import Derived.ProofKit
namespace Go.Proofs.Ytaghemilihaiaaa
open Go.ChangeShapes Go.WideShapes Go.RowKit Go.Joins

/-- what the walk is told of a diagram -/
structure DArg (w : World) (A1 A2 : Option Addr) (sg mt : List Int) (L : Int) : Prop where
  rs : RI w (· < w.heap.size) A1 sg
  rm : RI w (· < w.heap.size) A2 mt
  ls : sg.length ≤ maxLen
  lm : mt.length ≤ maxLen
  bs : ∀ k, -9223372036854775808 ≤ gi sg k ∧ gi sg k ≤ 9223372036854775807
  bm : ∀ k, -9223372036854775808 ≤ gi mt k ∧ gi mt k ≤ 9223372036854775807
  bl : -9223372036854775808 ≤ L ∧ L ≤ 9223372036854775807

theorem int_wf {n : Int} (h : (Lit.int .i64 n).wf = true) : -9223372036854775808 ≤ n ∧ n ≤ 9223372036854775807 := by
  have hmin : IntKind.i64.min = -9223372036854775808 := rfl
  have hmax : IntKind.i64.max = 9223372036854775807 := rfl
  simp only [Lit.wf, Bool.and_eq_true, decide_eq_true_eq] at h
  omega

theorem slice_open {H : Type} {enc : TypeId × Value → H} {W : World} {base n : Nat} {held : Bool} {x : Value} {y : DataW H × List MemPlace}
    (g : DataW.trod enc Try.prog W base (fun _ => true) held n 22 [x] = some y) : ∃ A l c zs, x = .slice A l c ∧ ((A = none ∧ l = 0 ∧ c = 0 ∧ zs = []) ∨ ∃ a, A = some a ∧ l ≤ c ∧ c ≤ maxLen ∧ zs.length = c ∧ (∀ i, i < zs.length → W.cell? (a.add i) = some (.int .i64 (zs.getD i 0))) ∧ ∀ n ∈ zs, (Lit.int .i64 n).wf = true) := by
  rcases open_ints Try.underlying22 Try.underlying3 (by kernel_rfl) g with ⟨hcs, _⟩ | ⟨a, l, c, zs, hcs, _, hl, hm, hz, _, hcell, hwz⟩
  · injection hcs with hcs
    exact ⟨none, 0, 0, [], hcs, .inl ⟨rfl, rfl, rfl, rfl⟩⟩
  · injection hcs with hcs
    exact ⟨some a, l, c, zs, hcs, .inr ⟨a, rfl, hl, hm, by simpa using hz, hcell, hwz⟩⟩

theorem darg_open {H : Type} {enc : TypeId × Value → H} {W : World} {base b0 : Nat} {held : Bool} {r : Reach} {v : Value} {d : DataW H} {p : List MemPlace} (hv : Value.okWide Try.prog W r b0 24 v)
    (h : DataW.Trod enc Try.prog W base (fun _ => true) held 24 v d p) : ∃ A1 A2 c1 c2 sg mt L, v = .agg #[.slice A1 sg.length c1, .slice A2 mt.length c2, .int .i64 L] ∧ DArg W A1 A2 sg mt L := by
  obtain ⟨x0, x1, x2, y0, y1, y2, n0, rfl, -, -, g0, g1, g2⟩ := open_agg3 Try.underlying24 (by kernel_rfl) (by kernel_rfl) hv h
  obtain ⟨A1, l1, c1, z1, rfl, w1⟩ := slice_open g0
  obtain ⟨A2, l2, c2, z2, rfl, w2⟩ := slice_open g1
  obtain ⟨L, hL, -, wL⟩ := DataW.trod_int Try.underlying3 g2
  injection hL with hL
  subst hL
  obtain ⟨sg, rfl, r1, m1, b1⟩ := row_RI w1
  obtain ⟨mt, rfl, r2, m2, b2⟩ := row_RI w2
  exact ⟨A1, A2, c1, c2, sg, mt, L, rfl, r1, r2, m1, m2, b1, b2, int_wf wL⟩
end Go.Proofs.Ytaghemilihaiaaa

