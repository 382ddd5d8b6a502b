/-
  The contracts of the reference's Shape, Abs, Small, Gcd; of the law's size.
-/
import Derived.Test.YteanhbldhaiekaaZ20
namespace Go.Proofs.Yteanhbldhaiekaa
open Go.RowKit

/-- the reference's absolute value -/
def rab (x : Int) : Nat := if x = -9223372036854775808 then 9223372036854775807 else x.natAbs
set_option maxHeartbeats 1000000 in
theorem rabs_any (x : Int) (h1 : -9223372036854775808 ≤ x) (h2 : x ≤ 9223372036854775807) (w : World) :
    Calls Try.prog 37 #[.int .i64 x] w fun e w' => e = .returned (.int .i64 (rab x : Nat)) ∧ w = w' := by
  by_cases hm : x = -9223372036854775808
  · subst hm
    have E : Hid (((rab (-9223372036854775808) : Nat) : Int) = 9223372036854775807) := by unfold rab; rw [if_pos rfl]; exact rfl
    have x1 : wrap64 9223372036854775808 = -9223372036854775808 := by decide +kernel
    have x2 : IntKind.i64.wrap 9223372036854775808 = -9223372036854775808 := by decide +kernel
    go_enter Try.func37, Try.ntmps37
    go_wp2_with fail
    go_ret
    exact ⟨ret_int E.out.symm, rfl⟩
  · by_cases h : x < 0
    · have E : Hid (((rab x : Nat) : Int) = -x) := by unfold rab; rw [if_neg hm]; show ((x.natAbs : Nat) : Int) = -x; omega
      have x1 : IntKind.i64.wrap (0 - x) = -x := by rw [IntWalk.i64_in _ (by omega)]; omega
      have x2 : IntKind.i64.wrap (-x) = -x := IntWalk.i64_in _ (by omega)
      have x3 : ¬ (-x < 0) := by omega
      have z1 : decide (x < 0) = true := decide_eq_true h
      have z2 : decide (-x < 0) = false := decide_eq_false x3
      have z3 : decide (0 < x) = false := decide_eq_false (by omega)
      clear h1 h2 hm h
      go_enter Try.func37, Try.ntmps37
      go_wp2_with fail
      go_ret
      exact ⟨ret_int E.out.symm, rfl⟩
    · have E : Hid (((rab x : Nat) : Int) = x) := by unfold rab; rw [if_neg hm]; show ((x.natAbs : Nat) : Int) = x; omega
      have z1 : decide (x < 0) = false := decide_eq_false h
      clear h1 h2 hm h
      go_enter Try.func37, Try.ntmps37
      go_wp2_with fail
      go_ret
      exact ⟨ret_int E.out.symm, rfl⟩
/-- the number of columns, -1 of what is no matrix -/
def shp (xss : List (List Int)) : Int := if IsM xss then (rowL xss 0 : Nat) else -1
section
variable {w : World} {A : Option Addr} {n cap : Nat} {xss : List (List Int)}
theorem AM.head (h : AM w A n xss) {k : Nat} (hk : k < n) : ∃ b off Ak ck, A = some ⟨b, off, none⟩ ∧ w.cell? ⟨b, off + k, none⟩ = some (.slice Ak (rowL xss k) ck) ∧ RI w (· < w.heap.size) Ak (xss.getD k []) := by
  obtain ⟨b, off, e, -, hc⟩ := h.rd.at_ (k := k) (by rw [h.ln]; exact hk)
  obtain ⟨Ak, ck, c1, hr, -⟩ := hc k (by rw [h.ln]; exact hk)
  exact ⟨b, off, Ak, ck, e, c1, hr⟩
set_option maxHeartbeats 2000000 in
theorem rshape_any (h : AM w A n xss) : Calls Try.prog 50 #[.slice A n cap] w fun e w' => e = .returned (.int .i64 (shp xss)) ∧ w = w' := by
  have HX := Lib.hid h
  have hnl : n ≤ maxLen := h.nl
  unfold maxLen at hnl
  by_cases h0 : n = 0
  · subst h0
    have E : Hid (shp xss = 0) := by
      have hl := h.ln
      have hr := rowL_nil hl
      unfold shp
      rw [if_pos ⟨fun i hi => by omega, by omega, by omega⟩, hr]
      exact rfl
    clear h
    go_enter Try.func50, Try.ntmps50
    go_wp2_with fail
    go_ret
    exact ⟨ret_int E.out.symm, rfl⟩
  · obtain ⟨b, off, A0, k0, rfl, c0, -⟩ := h.head (k := 0) (by omega)
    rw [Nat.add_zero] at c0
    have h0' : ((n : Int) == 0) = false := by rw [beq_eq_false_iff_ne]; omega
    have hnp : 0 < n := by omega
    have HLN := Lib.hid h.ln
    clear h
    obtain ⟨c, hc⟩ : ∃ c, rowL xss 0 = c := ⟨_, rfl⟩
    rw [hc] at c0
    have HC := Lib.hid hc
    clear hc
    by_cases h1 : (64 : Int) < n
    · have E : Hid (shp xss = -1) := by
        unfold shp
        rw [if_neg (fun h => by have := h.2.1; have := HLN.out; omega)]
        exact rfl
      go_enter Try.func50, Try.ntmps50
      go_wp2_with fail
      go_ret
      exact ⟨ret_int E.out.symm, rfl⟩
    · by_cases h2 : (64 : Int) < c
      · have E : Hid (shp xss = -1) := by
          unfold shp
          rw [if_neg (fun h => by have := h.2.2; have := HC.out; omega)]
          exact rfl
        go_enter Try.func50, Try.ntmps50
        go_wp2_with fail
        go_ret
        exact ⟨ret_int E.out.symm, rfl⟩
      · go_enter Try.func50, Try.ntmps50
        go_wp2_with fail
        go_loopw [4] (fun i' wr => ∃ k : Nat, k ≤ n ∧ i' = .int .i64 k ∧ w = wr ∧ Hid (∀ i, i < k → rowL xss i = c)) (fun i _ => n - (intOf i).toNat)
        case atStart => exact ⟨0, Nat.zero_le _, rfl, rfl, fun i hi => by omega⟩
        case round =>
          obtain ⟨k, hk, rfl, rfl, HA⟩ := hrel
          by_cases hlt : k < n
          · obtain ⟨b', off', Ak, kk, e1, c1, -⟩ := HX.out.head (k := k) hlt
            injection e1 with e1
            injection e1 with e1 e2 _
            subst e1 e2
            obtain ⟨l, hl⟩ : ∃ l, rowL xss k = l := ⟨_, rfl⟩
            rw [hl] at c1
            have HL := Lib.hid hl
            clear hl
            by_cases he : l = c
            · subst he
              have HA' : Hid (∀ i, i < k + 1 → rowL xss i = l) := fun i hi => by
                by_cases e : i = k
                · rw [e]; exact HL.out
                · exact HA.out i (by omega)
              clear HA
              go_wp2_with fail
              go_roundw
              case rel => exact ⟨k + 1, by omega, by go_num, by trivial, HA'⟩
              case measure => simp [intOf]; omega
            · have E : Hid (shp xss = -1) := by
                unfold shp
                rw [if_neg (fun h => he (by rw [← HL.out, ← HC.out]; exact h.1 k (by rw [HLN.out]; exact hlt)))]
                exact rfl
              have he' : ((l : Int) != (c : Int)) = true := by rw [bne_iff_ne]; omega
              clear he
              go_wp2_with fail
              go_ret
              exact ⟨ret_int E.out.symm, rfl⟩
          · have E : Hid (shp xss = (c : Nat)) := by
              unfold shp
              rw [if_pos ⟨fun i hi => by rw [HC.out]; exact HA.out i (by rw [HLN.out] at hi; omega), by rw [HLN.out]; omega, by rw [HC.out]; omega⟩, HC.out]
              exact rfl
            go_wp2_with fail
            go_ret
            exact ⟨ret_int E.out.symm, rfl⟩
set_option maxHeartbeats 4000000 in
theorem rsmall_any (h : AM w A n xss) (hm : IsM xss) (r : Bool) (hr : decide (Sml xss) = r) : Calls Try.prog 17 #[.slice A n cap] w fun e w' => e = .returned (.bool r) ∧ w = w' := by
  have HX := Lib.hid h
  have hln := h.ln
  have hnl : n ≤ 64 := by have := hm.2.1; omega
  obtain ⟨c, hc⟩ : ∃ c, rowL xss 0 = c := ⟨_, rfl⟩
  have hcl : c ≤ 64 := by have := hm.2.2; omega
  have HC : Hid (∀ i, i < n → rowL xss i = c) := fun i hi => by rw [hm.1 i (by omega), hc]
  have HR : Hid (decide (bndM n c (eI xss) ≤ 1125899906842624) = r) := by
    rw [← hr]
    exact decide_eq_decide.2 (by unfold Sml; rw [hln, hc])
  clear h hm hr hln hc
  go_enter Try.func17, Try.ntmps17
  go_wp2_with fail
  go_loopw [3, 4] (fun b' i' wr => ∃ k q : Nat, k ≤ n ∧ i' = .int .i64 k ∧ b' = .int .i64 q ∧ w = wr ∧ Hid (q = pN k (rfN c (eI xss)) ∧ 1 ≤ q ∧ q ≤ 1125899906842624)) (fun _ i _ => n - (intOf i).toNat)
  case atStart => exact ⟨0, 1, Nat.zero_le _, rfl, rfl, rfl, rfl, by decide, by decide⟩
  case round =>
    obtain ⟨k, q, hk, rfl, rfl, rfl, HQ⟩ := hrel
    by_cases hlt : k < n
    · obtain ⟨b, off, Ak, ck, rfl, c1, hri⟩ := HX.out.head hlt
      rw [HC.out k hlt] at c1
      have HCK : Hid ((xss.getD k []).length = c) := HC.out k hlt
      have HRI := Lib.hid hri
      clear hri
      go_wp2_with fail
      go_loopw [5, 6] (fun s' j' wr => ∃ j s : Nat, j ≤ c ∧ j' = .int .i64 j ∧ s' = .int .i64 s ∧ w = wr ∧ Hid (s = sN j fun j => (eI xss k j).natAbs) ∧ Hid (s ≤ j * 1125899906842624)) (fun _ j _ => c - (intOf j).toNat)
      case atStart => exact ⟨0, 0, Nat.zero_le _, rfl, rfl, rfl, rfl, by show 0 ≤ 0 * _; omega⟩
      case round =>
        obtain ⟨j, s, hj, rfl, rfl, rfl, HS, HSL⟩ := hrel
        by_cases hlj : j < c
        · obtain ⟨bk, ok, rfl, -, hcj⟩ := HRI.out.at_ (k := j) (by rw [HCK.out]; exact hlj)
          have c4 := hcj j (by rw [HCK.out]; exact hlj)
          obtain ⟨x, hx⟩ : ∃ x, gi (xss.getD k []) j = x := ⟨_, rfl⟩
          rw [hx] at c4
          have hxe : eI xss k j = x := hx
          have hxb := HX.out.rg k j hlt (by rw [HC.out k hlt]; exact hlj)
          rw [hxe] at hxb
          have hxn : (eI xss k j).natAbs = x.natAbs := by rw [hxe]
          obtain ⟨y, hy⟩ : ∃ y, rab x = y := ⟨_, rfl⟩
          have HAB := Lib.hid (rabs_any x hxb.1 hxb.2 w)
          rw [hy] at HAB
          have HXN : Hid ((eI xss k j).natAbs = y ∨ (1125899906842624 < y ∧ 1125899906842624 < (eI xss k j).natAbs)) := by
            rw [hxn, ← hy]
            unfold rab
            show (_ = if _ then _ else _) ∨ _
            split
            · exact .inr ⟨by omega, by omega⟩
            · exact .inl rfl
          clear hx hxe hxb hcj hxn hy
          by_cases hbig : 1125899906842624 < y
          · have HD := Lib.hid (decide_eq_false (show ¬ bndM n c (eI xss) ≤ 1125899906842624 from fun h => by
              have := bnd_ent (m := eI xss) hlt hlj
              rcases HXN.out with e | e
              · omega
              · omega))
            rw [HR.out] at HD
            go_wp2_with fail
            refine HAB.out.mono ?_
            rintro e w1 ⟨rfl, rfl⟩
            go_wp2_with fail
            go_ret
            exact ⟨ret_bool HD.out.symm, rfl⟩
          · obtain ⟨t, ht⟩ : ∃ t, s + y = t := ⟨_, rfl⟩
            have hsl := HSL.out
            have x1 : IntKind.i64.wrap ((s : Int) + (y : Int)) = (t : Int) := by rw [IntWalk.i64_in _ (by omega)]; omega
            have HXN2 : Hid ((eI xss k j).natAbs = y) := by
              rcases HXN.out with e | e
              · exact e
              · omega
            have HS' : Hid (t = sN (j + 1) fun j => (eI xss k j).natAbs) := by
              show t = sN j _ + (eI xss k j).natAbs
              rw [← HS.out, HXN2.out, ht]
            have HSL' : Hid (t ≤ (j + 1) * 1125899906842624) := by show t ≤ _; omega
            clear ht HS HSL hsl HXN
            go_wp2_with fail
            refine HAB.out.mono ?_
            rintro e w1 ⟨rfl, rfl⟩
            go_wp2_with fail
            go_roundw
            case rel => exact ⟨j + 1, t, by omega, by go_num, rfl, by trivial, HS', HSL'⟩
            case measure => simp [intOf]; omega
        · obtain rfl : j = c := by omega
          obtain ⟨hq1, hq2, hq3⟩ := HQ.out
          have hvr : rfN j (eI xss) k = max s 1 := by unfold rfN; rw [← HS.out]
          have hpk : pN (k + 1) (rfN j (eI xss)) = q * max s 1 := by show pN k _ * _ = _; rw [← hq1, hvr]
          have hb1 := bnd_pre (c := j) (m := eI xss) (show k + 1 ≤ n by omega)
          rw [hpk] at hb1
          have hb2 := bnd_row (c := j) (m := eI xss) hlt
          rw [hvr] at hb2
          have HPK := Lib.hid hpk
          have hsl := HSL.out
          by_cases hsb : 1125899906842624 < s
          · have HD := Lib.hid (decide_eq_false (show ¬ bndM n j (eI xss) ≤ 1125899906842624 from fun h => by omega))
            rw [HR.out] at HD
            clear hq1 hvr hpk hb1 hb2 hsl HSL HS HQ HPK
            go_wp2_with fail
            go_ret
            exact ⟨ret_bool HD.out.symm, rfl⟩
          · by_cases hs0 : s = 0
            · subst hs0
              have HQ' : Hid (q = pN (k + 1) (rfN j (eI xss)) ∧ 1 ≤ q ∧ q ≤ 1125899906842624) := Lib.hid ⟨by rw [HPK.out, show max 0 1 = 1 from rfl, Nat.mul_one], hq2, hq3⟩
              clear hq1 hvr hpk hb1 hb2 hsl HSL HS HQ HPK
              go_wp2_with fail
              go_roundw
              case rel => exact ⟨k + 1, q, by omega, by go_num, rfl, by trivial, HQ'⟩
              case measure => simp [intOf]; omega
            · rw [show max s 1 = s by omega] at HPK hb1
              obtain ⟨g, hg⟩ : ∃ g, 1125899906842624 / s = g := ⟨_, rfl⟩
              have x2 : (1125899906842624 : Int).tdiv (s : Int) = (g : Int) := by rw [← hg]; exact Int.ofNat_tdiv 1125899906842624 s
              have x2' : (1125899906842624 : Int) / (s : Int) = (g : Int) := by rw [← hg]; rfl
              have hgl : g ≤ 1125899906842624 := by rw [← hg]; exact Nat.div_le_self _ _
              have x3 : IntKind.i64.wrap (g : Int) = (g : Int) := IntWalk.i64_in _ (by omega)
              have x4 : ¬ (s : Int) = 0 := by omega
              have hsp : 0 < s := by omega
              have hdiv : g < q ↔ 1125899906842624 < q * s := by rw [← hg]; exact Nat.div_lt_iff_lt_mul (by omega)
              have HDV := Lib.hid hdiv
              have HB1 := Lib.hid hb1
              clear hg hq1 hvr hpk hb1 hb2 hsl HSL HS hdiv HQ
              by_cases hbig : g < q
              · have HD := Lib.hid (decide_eq_false (show ¬ bndM n j (eI xss) ≤ 1125899906842624 from fun h => by
                  have h1 := HDV.out.1 hbig
                  have h2 := HB1.out
                  omega))
                rw [HR.out] at HD
                have z1 : decide (g < q) = true := decide_eq_true hbig
                go_wp2_with fail
                go_ret
                exact ⟨ret_bool HD.out.symm, rfl⟩
              · obtain ⟨q2, hq2'⟩ : ∃ x, q * s = x := ⟨_, rfl⟩
                have hle : q2 ≤ 1125899906842624 := by
                  rw [← hq2']
                  exact Nat.le_of_not_lt fun h => hbig (HDV.out.2 h)
                have hge : 1 ≤ q2 := by rw [← hq2']; exact Nat.mul_pos hq2 hsp
                have x5 : IntKind.i64.wrap ((q : Int) * (s : Int)) = (q2 : Int) := by rw [← Int.natCast_mul, hq2']; exact IntWalk.i64_in _ (by omega)
                have HQ' : Hid (q2 = pN (k + 1) (rfN j (eI xss)) ∧ 1 ≤ q2 ∧ q2 ≤ 1125899906842624) := Lib.hid ⟨by rw [HPK.out, hq2'], hge, hle⟩
                have z1 : decide (g < q) = false := decide_eq_false hbig
                clear hq2' hle hge HPK HDV HB1
                go_wp2_with fail
                go_roundw
                case rel => exact ⟨k + 1, q2, by omega, by go_num, rfl, by trivial, HQ'⟩
                case measure => simp [intOf]; omega
    · obtain rfl : k = n := by omega
      have HD := Lib.hid (decide_eq_true (show bndM k c (eI xss) ≤ 1125899906842624 by
        show pN k (rfN c (eI xss)) ≤ _
        rw [← HQ.out.1]; exact HQ.out.2.2))
      rw [HR.out] at HD
      go_wp2_with fail
      go_ret
      exact ⟨ret_bool HD.out.symm, rfl⟩
/-- the law's size -/
def szB (xss : List (List Int)) (q : Nat) : Prop := IsM xss ∧ rowL xss 0 ≤ q ∧ xss.length ≤ q
instance (xss : List (List Int)) (q : Nat) : Decidable (szB xss q) := by unfold szB; infer_instance
end
end Go.Proofs.Yteanhbldhaiekaa
