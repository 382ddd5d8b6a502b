/-
  The law SignatureRank, walked: the call returns true and writes nothing that was there.
-/
import Derived.Test.YteanhbldhaiekaaAw39
import Derived.Test.YteanhbldhaiekaaL39
namespace Go.Proofs.Yteanhbldhaiekaa
open Go.RowKit

section
variable (A : Option Addr) (ca : Nat) (xa : List (List Int)) (w : World) (ha : AM w A xa.length xa)
include ha
set_option maxHeartbeats 4000000 in
theorem srk_a (h : (boL xa).length ≠ xa.length) : Calls Try.prog 7 #[.slice A xa.length ca] w fun e w' => e = .returned (.bool true) ∧ Below w.heap.size w w' := by
  have HM_0 := Lib.hid ha
  have HH := Lib.hid h
  obtain ⟨nm, hnm⟩ : ∃ n, xa.length = n := ⟨_, rfl⟩
  rw [hnm] at HM_0 HH ⊢
  have hm64 := HM_0.out.nl
  unfold maxLen at hm64
  clear ha h hnm
  go_enter Try.func7, Try.ntmps7
  go_wp2_with fail
  refine (awake39 w).mono ?_
  rintro e w1 ⟨rfl, hb⟩
  have HM_1 := Lib.hid (HM_0.out.call hb)
  have HB_1 := Lib.hid hb
  clear hb HM_0
  go_wp2_with fail
  refine (both_any (cap := ca) HM_1.out).mono ?_
  rintro e w2 ⟨A1, n1, c1, rfl, hx, hb⟩
  have HX_2 := Lib.hid hx
  have HB_2 := Lib.hid (below_cons HB_1.out hb)
  have hnx := hx.ln
  clear hb hx HM_1 HB_1
  have z1 : ((n1 : Int) != (nm : Int)) = true := by rw [bne_iff_ne]; intro e; exact HH.out (by omega)
  clear hnx
  go_wp2_with fail
  go_ret
  exact ⟨rfl, HB_2.out⟩
set_option maxHeartbeats 4000000 in
theorem srk_b (h : (boL xa).length = xa.length) (he : inE (boL xa) = 9) : Calls Try.prog 7 #[.slice A xa.length ca] w fun e w' => e = .returned (.bool true) ∧ Below w.heap.size w w' := by
  have HM_0 := Lib.hid ha
  have HH := Lib.hid h
  have HE := Lib.hid he
  obtain ⟨nm, hnm⟩ : ∃ n, xa.length = n := ⟨_, rfl⟩
  rw [hnm] at HM_0 HH ⊢
  have hm64 := HM_0.out.nl
  unfold maxLen at hm64
  clear ha h he hnm
  go_enter Try.func7, Try.ntmps7
  go_wp2_with fail
  refine (awake39 w).mono ?_
  rintro e w1 ⟨rfl, hb⟩
  have HM_1 := Lib.hid (HM_0.out.call hb)
  have HB_1 := Lib.hid hb
  clear hb HM_0
  go_wp2_with fail
  refine (both_any (cap := ca) HM_1.out).mono ?_
  rintro e w2 ⟨A1, n1, c1, rfl, hx, hb⟩
  have HX_2 := Lib.hid hx
  have HB_2 := Lib.hid (below_cons HB_1.out hb)
  have hnx := hx.ln
  clear hb hx HM_1 HB_1
  obtain rfl : n1 = nm := by rw [← hnx]; exact HH.out
  clear hnx
  go_wp2_with fail
  refine (inertia_any (cap := c1) HX_2.out).mono ?_
  rintro e w3 ⟨p, q, z, rfl, hA, hb⟩
  have HX_3 := Lib.hid (HX_2.out.call hb)
  have HB_3 := Lib.hid (below_cons HB_2.out hb)
  rw [HE.out]
  clear hA
  clear hb HX_2 HB_2
  go_wp2_with fail
  go_ret
  exact ⟨rfl, HB_3.out⟩
set_option maxHeartbeats 4000000 in
theorem srk_c (h : (boL xa).length = xa.length) (he : inE (boL xa) = 0) : Calls Try.prog 7 #[.slice A xa.length ca] w fun e w' => e = .returned (.bool true) ∧ Below w.heap.size w w' := by
  have HM_0 := Lib.hid ha
  have HH := Lib.hid h
  have HE := Lib.hid he
  obtain ⟨nm, hnm⟩ : ∃ n, xa.length = n := ⟨_, rfl⟩
  rw [hnm] at HM_0 HH ⊢
  have hm64 := HM_0.out.nl
  unfold maxLen at hm64
  clear ha h he hnm
  go_enter Try.func7, Try.ntmps7
  go_wp2_with fail
  refine (awake39 w).mono ?_
  rintro e w1 ⟨rfl, hb⟩
  have HM_1 := Lib.hid (HM_0.out.call hb)
  have HB_1 := Lib.hid hb
  clear hb HM_0
  go_wp2_with fail
  refine (both_any (cap := ca) HM_1.out).mono ?_
  rintro e w2 ⟨A1, n1, c1, rfl, hx, hb⟩
  have HX_2 := Lib.hid hx
  have HB_2 := Lib.hid (below_cons HB_1.out hb)
  have hnx := hx.ln
  clear hb hx HM_1 HB_1
  obtain rfl : n1 = nm := by rw [← hnx]; exact HH.out
  clear hnx
  have hn6 : n1 ≤ 6 := by rw [← HH.out]; exact (bo_all xa).1
  go_wp2_with fail
  refine (inertia_any (cap := c1) HX_2.out).mono ?_
  rintro e w3 ⟨p, q, z, rfl, hA, hb⟩
  have HX_3 := Lib.hid (HX_2.out.call hb)
  have HB_3 := Lib.hid (below_cons HB_2.out hb)
  rw [HE.out]
  have HA := Lib.hid hA
  clear hA
  clear hb HX_2 HB_2
  go_wp2_with fail
  refine (rank_any (cap := c1) HX_3.out).mono ?_
  rintro e w4 ⟨r, rfl, hr, hb⟩
  have HX_4 := Lib.hid (HX_3.out.call hb)
  have HB_4 := Lib.hid (below_cons HB_3.out hb)
  obtain ⟨r1, r2, rfl, r4, r5, r6, r7⟩ := in_rk HE.out HA.out hr
  rw [r1]
  obtain ⟨y, rfl⟩ : ∃ y : Nat, z = (y : Int) := ⟨z.toNat, by omega⟩
  rw [HH.out] at r4 r5 r6 r7
  have HD := Lib.hid (And.intro r2 (And.intro r4 (And.intro r5 (And.intro r6 r7))))
  clear hr HA r1 r2 r4 r5 r6 r7
  clear hb HX_3 HB_3
  go_wp2_with fail
  refine (det_any (cap := c1) HX_4.out).mono ?_
  rintro e w5 ⟨rfl, hb⟩
  have HX_5 := Lib.hid (HX_4.out.call hb)
  have HB_5 := Lib.hid (below_cons HB_4.out hb)
  obtain ⟨r2, r4, r5, r6, r7⟩ := HD.out
  rw [r2]
  obtain ⟨d, hd⟩ : ∃ d, dtV (boL xa) = d := ⟨_, rfl⟩
  rw [hd] at r6 r7 ⊢
  have y0 : ((p : Int) + (q : Int)) = ((p + q : Nat) : Int) := by omega
  have w1' : IntKind.i64.wrap ((p : Int) + (q : Int)) = (p : Int) + q := by rw [IntKind.wrap_i64]; omega
  have w2' : IntKind.i64.wrap ((p : Int) + (q : Int) + (y : Int)) = n1 := by rw [IntKind.wrap_i64]; omega
  have t1 : ((p : Int) + (q : Int) != ((p + q : Nat) : Int)) = false := by rw [bne_eq_false_iff_eq]; omega
  have hq2 : (q : Int).tmod 2 = ((q % 2 : Nat) : Int) := by rw [Int.tmod_eq_emod_of_nonneg (by omega)]; omega
  clear hd HD
  clear hb HX_4 HB_4
  by_cases d0 : d = 0
  · have hy : y ≠ 0 := by have := r6.1 d0; omega
    subst d0
    have t3 : ((y : Int) == 0) = false := by rw [beq_eq_false_iff_ne]; omega
    clear r4 r5 r6 r7 y0
    go_wp2_with fail
    go_ret
    exact ⟨rfl, HB_5.out⟩
  · obtain rfl : y = 0 := by
      refine Classical.byContradiction fun hy => d0 (r6.2 (by omega))
    have hpq : p + q = n1 := by omega
    have t2 : (d != 0) = true := by rw [bne_iff_ne]; exact d0
    have t3 : (d == 0) = false := by rw [beq_eq_false_iff_ne]; exact d0
    have h7 := r7 hpq
    by_cases dn : d < 0
    · have q1 : q % 2 = 1 := by
        rcases Nat.mod_two_eq_zero_or_one q with h | h
        · have := h7.2 h; omega
        · exact h
      rw [q1] at hq2
      have z9 : decide (d < 0) = true := decide_eq_true dn
      clear r4 r5 r6 r7 h7 y0 d0 q1
      go_wp2_with fail
      go_ret
      exact ⟨rfl, HB_5.out⟩
    · have q0 : q % 2 = 0 := h7.1 (by omega)
      rw [q0] at hq2
      have z9 : decide (d < 0) = false := decide_eq_false dn
      clear r4 r5 r6 r7 h7 y0 q0
      go_wp2_with fail
      go_ret
      exact ⟨rfl, HB_5.out⟩
end
theorem signatureRank_walk (A : Option Addr) (ca : Nat) (xa : List (List Int)) (w : World) (ha : AM w A xa.length xa) : Calls Try.prog 7 #[.slice A xa.length ca] w fun e w' => e = .returned (.bool true) ∧ Below w.heap.size w w' := by
  by_cases h : (boL xa).length = xa.length
  · obtain ⟨-, h1, h2, -⟩ := bo_all xa
    rcases in_09 h1 h2 with he | he
    · exact srk_c A ca xa w ha h he
    · exact srk_b A ca xa w ha h he
  · exact srk_a A ca xa w ha h
end Go.Proofs.Yteanhbldhaiekaa

