/-
  The contract of the law's both.
  What the laws of layer 39 say of the contracts' answers, plain.
-/
import Derived.Test.YteanhbldhaiekaaSfY
import Derived.Test.YteanhbldhaiekaaRTr
import Derived.Test.YteanhbldhaiekaaLit
import Derived.Test.YteanhbldhaiekaaAw39
namespace Go.Proofs.Yteanhbldhaiekaa
open Go.RowKit

/-- all entries at most 50 -/
def Le50 (xss : List (List Int)) : Prop := ∀ i, i < xss.length → ∀ j, j < xss.length → -50 ≤ eI xss i j ∧ eI xss i j ≤ 50
instance (xss : List (List Int)) : Decidable (Le50 xss) := by unfold Le50; infer_instance
/-- what both answers -/
def boL (xss : List (List Int)) : List (List Int) := if SqA xss ∧ grB xss = false ∧ Le50 xss then syM xss else []
def sRow (xss : List (List Int)) (i k : Nat) : List Int := (List.range k).map fun j => IntKind.i64.wrap (eI xss i j + eI xss j i)
def sRows (xss : List (List Int)) (n i : Nat) : List (List Int) := (List.range i).map fun i => sRow xss i n
theorem sRow_succ (xss : List (List Int)) (i k : Nat) : sRow xss i (k + 1) = sRow xss i k ++ [IntKind.i64.wrap (eI xss i k + eI xss k i)] := by simp [sRow, List.range_succ]
theorem sRow_len (xss : List (List Int)) (i k : Nat) : (sRow xss i k).length = k := by simp [sRow]
theorem sRows_succ (xss : List (List Int)) (n i : Nat) : sRows xss n (i + 1) = sRows xss n i ++ [sRow xss i n] := by simp [sRows, List.range_succ]
theorem sRows_len (xss : List (List Int)) (n i : Nat) : (sRows xss n i).length = i := by simp [sRows]
theorem sRows_syM {xss : List (List Int)} {n : Nat} (h : xss.length = n) (h5 : Le50 xss) : sRows xss n n = syM xss := by
  unfold sRows syM mkL sRow
  rw [h]
  refine List.map_congr_left fun i hi => List.map_congr_left fun j hj => ?_
  have hi' := List.mem_range.1 hi
  have hj' := List.mem_range.1 hj
  have a := h5 i (by rw [h]; exact hi') j (by rw [h]; exact hj')
  have b := h5 j (by rw [h]; exact hj') i (by rw [h]; exact hi')
  rw [IntKind.wrap_i64]
  dsimp only
  omega
/-- the answer is a matrix that can be handed on -/
def AmP (w : World) (l : List (List Int)) (e : Ending) (w' : World) : Prop := ∃ A' n' c', e = .returned (.slice A' n' c') ∧ AM w' A' n' l ∧ Below w.heap.size w w'
set_option maxHeartbeats 8000000 in
theorem both_any {w : World} {A : Option Addr} {n cap : Nat} {xss : List (List Int)} (h : AM w A n xss) :
    Calls Try.prog 19 #[.slice A n cap] w (AmP w (boL xss)) := by
  have HX := Lib.hid h
  have HN := Lib.hid h.ln
  have HSQ := Lib.hid (lsquare_any (cap := cap) h)
  have HGR := Lib.hid (great_any (cap := cap) h)
  clear h
  go_enter Try.func19, Try.ntmps19
  go_wp2_with fail
  refine HSQ.out.mono ?_
  rintro e w1 ⟨rfl, rfl⟩
  by_cases hq : SqA xss
  · rw [decide_eq_true hq]
    go_wp2_with fail
    refine HGR.out.mono ?_
    rintro e w1 ⟨rfl, rfl⟩
    by_cases hg : grB xss = false
    · rw [hg]
      have HALL : Hid (∀ i, i < n → rowL xss i = n) := Lib.hid fun i hi => by have := hq i (by rw [HN.out]; exact hi); rw [HN.out] at this; exact this
      have hn6 : n ≤ 6 := Classical.byContradiction fun hlt => by
        have := grB_iff.2 (Or.inl (by rw [HN.out]; omega) : Grt xss)
        rw [hg] at this
        cases this
      have HBO : Hid (boL xss = if Le50 xss then syM xss else []) := Lib.hid (by
        unfold boL
        by_cases h5 : Le50 xss
        · rw [if_pos ⟨hq, hg, h5⟩, if_pos h5]
        · rw [if_neg fun h => h5 h.2.2, if_neg h5])
      clear hq hg HSQ HGR
      go_wp2_with fail
      go_loopw [3, 16] (fun v i' wr => ∃ i : Nat, i ≤ n ∧ i' = .int .i64 i ∧ Hid (RR 33 wr w.heap.size (fun _ => False) v (sRows xss n i)) ∧ Hid (Below w.heap.size w wr) ∧ Hid (∀ a, a < i → ∀ b, b < n → -50 ≤ eI xss a b ∧ eI xss a b ≤ 50)) (fun _ i _ => n - (intOf i).toNat)
      case atStart => exact ⟨0, Nat.zero_le _, rfl, RR.nil _ _ _, Below.refl _ _, fun a ha => by omega⟩
      case round =>
        obtain ⟨i, hi, rfl, HR, HB, HP⟩ := hrel
        by_cases hlt : i < n
        · go_wp2_with fail
          obtain ⟨w2, rfl⟩ : ∃ x : World, x = wr := ⟨_, rfl⟩
          have hs2 := HB.out.size
          go_loopw [5, 21] (fun v k' wr => ∃ k : Nat, k ≤ n ∧ k' = .int .i64 k ∧ Hid (OI wr w2.heap.size v (sRow xss i k)) ∧ Hid (Below w2.heap.size w2 wr) ∧ Hid (∀ b, b < k → -50 ≤ eI xss i b ∧ eI xss i b ≤ 50)) (fun _ k _ => n - (intOf k).toNat)
          case atStart => exact ⟨0, Nat.zero_le _, rfl, OR.nil _ _, Below.refl _ _, fun a ha => by omega⟩
          case round =>
            obtain ⟨k, hk, rfl, HO, HC, HPK⟩ := hrel
            by_cases hltk : k < n
            · have HXr := Lib.hid (HX.out.call (HB.out.trans (HC.out.mono hs2)))
              obtain ⟨b1, o1, Ai, ci, rfl, c1, hri⟩ := HXr.out.head hlt
              obtain ⟨b2, o2, Ak, ck, e2, c2, hrk⟩ := HXr.out.head hltk
              injection e2 with e2
              injection e2 with e2 e3 _
              subst e2 e3
              rw [HALL.out i hlt] at c1
              rw [HALL.out k hltk] at c2
              obtain ⟨b3, o3, rfl, hb3, hc3⟩ := hri.at_ (k := k) (by have := HALL.out i hlt; unfold rowL at this; omega)
              have c3 := hc3 k (by have := HALL.out i hlt; unfold rowL at this; omega)
              obtain ⟨b4, o4, rfl, hb4, hc4⟩ := hrk.at_ (k := i) (by have := HALL.out k hltk; unfold rowL at this; omega)
              have c4 := hc4 i (by have := HALL.out k hltk; unfold rowL at this; omega)
              have hb1 : b1 < wr.heap.size := World.block_lt_of_cell? _ _ c1
              obtain ⟨x, hx⟩ : ∃ x, gi (xss.getD i []) k = x := ⟨_, rfl⟩
              obtain ⟨y, hy⟩ : ∃ y, gi (xss.getD k []) i = y := ⟨_, rfl⟩
              have hxe : eI xss i k = x := hx
              have hye : eI xss k i = y := hy
              rw [hx] at c3
              rw [hy] at c4
              have HNO : Hid (¬ (-50 ≤ x ∧ x ≤ 50) → boL xss = []) := Lib.hid fun hno => by
                rw [HBO.out, if_neg fun h => hno (by have := h i (by rw [HN.out]; exact hlt) k (by rw [HN.out]; exact hltk); rw [hxe] at this; exact this)]
              have HYR : Hid (-9223372036854775808 ≤ y ∧ y ≤ 9223372036854775807) := Lib.hid (by have := HX.out.rg k i hltk (by rw [HALL.out k hltk]; exact hlt); rw [hye] at this; exact this)
              have HBW := Lib.hid (HB.out.trans (HC.out.mono hs2))
              by_cases g1 : 50 < x
              · have HN0 := Lib.hid (HNO.out (by omega))
                clear hri hrk hc3 hc4 HXr hx hy hxe hye
                go_wp2_with fail
                go_ret
                exact ⟨_, _, _, rfl, by rw [HN0.out]; exact AM.nil0 _, HBW.out⟩
              · by_cases g2 : x < -50
                · have HN0 := Lib.hid (HNO.out (by omega))
                  clear hri hrk hc3 hc4 HXr hx hy hxe hye
                  go_wp2_with fail
                  go_ret
                  exact ⟨_, _, _, rfl, by rw [HN0.out]; exact AM.nil0 _, HBW.out⟩
                · have HPK2 : Hid (∀ b, b < k + 1 → -50 ≤ eI xss i b ∧ eI xss i b ≤ 50) := Lib.hid fun b hb => by
                    by_cases e : b = k
                    · rw [e, hxe]; omega
                    · exact HPK.out b (by omega)
                  obtain ⟨v5, hv5⟩ : ∃ v5, IntKind.i64.wrap (x + y) = v5 := ⟨_, rfl⟩
                  have HSU : Hid (sRow xss i k ++ [v5] = sRow xss i (k + 1)) := Lib.hid (by rw [sRow_succ, hxe, hye, hv5])
                  obtain ⟨xs, hxs⟩ : ∃ xs, sRow xss i k = xs := ⟨_, rfl⟩
                  have hxl : xs.length = k := by rw [← hxs, sRow_len]
                  rw [hxs] at HSU HO
                  have HLN : Hid (xs.length < 1099511627776) := Lib.hid (by omega)
                  have HSZ := Lib.hid HC.out.size
                  obtain ⟨A5, k5, hvv, -, -, -⟩ := HO.out.shape
                  rw [hxl] at hvv
                  subst hvv
                  clear hri hrk hc3 hc4 HXr hx hy hxe hye hxs HBW HNO HPK hxl HYR
                  go_wp2_with fail
                  apply share
                  case h =>
                    intro key
                    go_region_law ((refine step_app_row (w := wr.drew) int_info rfl (by decide) rfl HO.out HLN.out HSZ.out rfl rfl Try.underlying33 rfl rfl ?_; intro v6 w6 ho6 hg6 hob6))
                    all_goals
                      rw [HSU.out] at ho6
                      have hb6 : Below w2.heap.size w2 w6 := OR.grown_below (w := wr.drew) HO.out HC.out.drew HSZ.out _ hg6
                      clear hg6 hob6
                      revert v6 w6
                      exact key
                  case g =>
                    intro v6 w6 ho6 hb6
                    have HO6 := Lib.hid ho6
                    have HB6 := Lib.hid hb6
                    clear ho6 hb6 c1 c2 c3 c4 hb1 hb3 hb4 HO HSU
                    go_wp2_with fail
                    go_roundw
                    case rel => exact ⟨k + 1, by omega, by go_num, HO6, HB6, HPK2⟩
                    case measure => simp [intOf]; omega
            · obtain rfl : k = n := by omega
              obtain ⟨Au, cu, rfl, -, -, -⟩ := HO.out.shape
              obtain ⟨vs, hvs⟩ := (HR.out.below HC.out (Nat.le_refl _))
              have HV := Lib.hid hvs
              have hvl : vs.length < 1099511627776 := by have := hvs.2.2.1; rw [sRows_len] at this; omega
              have HVL := Lib.hid hvl
              have HBW := Lib.hid (HB.out.trans (HC.out.mono hs2))
              have hszw := HBW.out.size
              clear hvs hvl
              go_wp2_with (at_builtin; refine app_row (f := id) (y := Value.slice Au (sRow xss i k).length cu) row_info rfl (by decide) rfl HV.out.1 HVL.out hszw rfl rfl Try.underlying22 rfl rfl ?_; intro v' w' ho hg hob)
              have hR := RRv.push (by decide) HV.out (HO.out.mono hs2) (fun _ _ h => h) (fun b hF => hF.elim) ho hg hob
              have HBN := Lib.hid (HV.out.1.grown_below HBW.out hszw _ hg)
              have HR2 : Hid (RR 33 w' w.heap.size (fun _ => False) v' (sRows xss k (i + 1))) := by
                rw [sRows_succ]; exact ⟨_, hR⟩
              have HP2 : Hid (∀ a, a < i + 1 → ∀ b, b < k → -50 ≤ eI xss a b ∧ eI xss a b ≤ 50) := Lib.hid fun a ha b hb => by
                by_cases e : a = i
                · subst e; exact HPK.out b hb
                · exact HP.out a (by omega) b hb
              clear ho hg hob hR
              go_roundw
              case rel => exact ⟨i + 1, by omega, by go_num, HR2, HBN, HP2⟩
              case measure => simp [intOf]; omega
        · obtain rfl : i = n := by omega
          have h5 : Le50 xss := fun a ha b hb => HP.out a (by rw [HN.out] at ha; exact ha) b (by rw [HN.out] at hb; exact hb)
          have hbo : boL xss = syM xss := by rw [HBO.out, if_pos h5]
          have hr := HR.out
          rw [sRows_syM HN.out h5, ← hbo] at hr
          obtain ⟨A', c', rfl, ha⟩ := hr.am (fun a b ha hb => by
            rw [hbo] at ha hb ⊢
            have e : (syM xss).length = xss.length := mkL_len _ _ _
            rw [e] at ha
            have e2 : rowL (syM xss) a = xss.length := mkL_rowL ha
            rw [e2] at hb
            have e3 : eI (syM xss) a b = eI xss a b + eI xss b a := mkL_eI ha hb
            rw [e3]
            have := h5 a ha b hb
            have := h5 b hb a ha
            omega)
          have HA := Lib.hid ha
          clear hr ha h5 hbo
          go_wp2_with fail
          go_ret
          exact ⟨_, _, _, rfl, HA.out, HB.out⟩
    · have hg' : grB xss = true := by cases h : grB xss; exact absurd h hg; rfl
      have HE : Hid (boL xss = []) := Lib.hid (by unfold boL; rw [if_neg fun h => hg h.2.1])
      rw [hg']
      go_wp2_with fail
      go_ret
      exact ⟨_, _, _, rfl, by rw [HE.out]; exact AM.nil0 _, Below.refl _ _⟩
  · have HE : Hid (boL xss = []) := Lib.hid (by unfold boL; rw [if_neg fun h => hq h.1])
    rw [decide_eq_false hq]
    go_wp2_with fail
    go_ret
    exact ⟨_, _, _, rfl, by rw [HE.out]; exact AM.nil0 _, Below.refl _ _⟩
end Go.Proofs.Yteanhbldhaiekaa
namespace Go.Proofs.Yteanhbldhaiekaa
open Go.RowKit

theorem syM_len (xss : List (List Int)) : (syM xss).length = xss.length := mkL_len _ _ _
theorem syM_row {xss : List (List Int)} {i : Nat} (hi : i < xss.length) : rowL (syM xss) i = xss.length := mkL_rowL hi
theorem syM_eI {xss : List (List Int)} {i j : Nat} (hi : i < xss.length) (hj : j < xss.length) : eI (syM xss) i j = eI xss i j + eI xss j i := mkL_eI hi hj
theorem syM_IsM {xss : List (List Int)} (h : xss.length ≤ 64) : IsM (syM xss) := mkL_IsM h h
theorem syM_SqS (xss : List (List Int)) : SqS (syM xss) := ⟨fun i hi => by rw [syM_len] at hi ⊢; exact syM_row hi, fun i hi j hj => by
  rw [syM_len] at hi
  rw [syM_eI hi (by omega), syM_eI (by omega) hi]
  omega⟩
/-- what both answers: not more than 6 rows, symmetric, small numbers -/
theorem bo_all (xss : List (List Int)) : (boL xss).length ≤ 6 ∧ IsM (boL xss) ∧ SqS (boL xss) ∧ ∀ i j, i < (boL xss).length → j < (boL xss).length → -100 ≤ eI (boL xss) i j ∧ eI (boL xss) i j ≤ 100 := by
  unfold boL
  split
  · rename_i h
    have h6 : xss.length ≤ 6 := Classical.byContradiction fun hlt => by
      have := grB_iff.2 (Or.inl (by omega) : Grt xss)
      rw [h.2.1] at this
      cases this
    refine ⟨by rw [syM_len]; exact h6, syM_IsM (by omega), syM_SqS _, fun i j hi hj => ?_⟩
    rw [syM_len] at hi hj
    rw [syM_eI hi hj]
    have := h.2.2 i hi j hj
    have := h.2.2 j hj i hi
    omega
  · exact ⟨Nat.zero_le _, ⟨fun i hi => absurd hi (Nat.not_lt_zero _), by decide, by decide⟩, ⟨fun i hi => absurd hi (Nat.not_lt_zero _), fun i hi => absurd hi (Nat.not_lt_zero _)⟩, fun i j hi => absurd hi (Nat.not_lt_zero _)⟩
theorem in_09 {x : List (List Int)} (h1 : IsM x) (h2 : SqS x) : inE x = 0 ∨ inE x = 9 := by
  unfold inE
  rw [if_pos ⟨h1, h2⟩]
  split
  · exact .inl rfl
  · exact .inr rfl
theorem in_0 {x : List (List Int)} (h : inE x = 0) : IsM x ∧ SqS x ∧ Sml x := by
  unfold inE at h
  split at h
  · rename_i h1
    split at h
    · rename_i h2; exact ⟨h1.1, h1.2, h2⟩
    · cases h
  · cases h
/-- the rank and the determinant are there too -/
theorem in_rk {x : List (List Int)} {p q r : Nat} {z : Int} (h : inE x = 0) (hA : InA x p q z) (hr : rkR x r) : rkE x = 0 ∧ dtE x = 0 ∧ r = p + q ∧ z = (x.length : Int) - p - q ∧ p + q ≤ x.length ∧ (dtV x = 0 ↔ p + q < x.length) ∧ (p + q = x.length → (0 < dtV x ↔ q % 2 = 0)) := by
  obtain ⟨h1, h2, h3⟩ := in_0 h
  unfold InA at hA
  rw [if_pos h] at hA
  obtain ⟨a1, a2, a3, a4, a5⟩ := hA
  have hc : x.length = rowL x 0 := by
    rcases Nat.eq_zero_or_pos x.length with h0 | h0
    · rw [rowL_nil h0, h0]
    · rw [h2.1 0 h0]
  have e1 : rkE x = 0 := by unfold rkE; rw [if_pos h1, if_pos h3]
  have e2 : dtE x = 0 := by unfold dtE; rw [if_pos ⟨h1, hc⟩, if_pos h3]
  have e3 : dtV x = det x.length (eI x) := by unfold dtV; rw [if_pos e2]
  unfold rkR at hr
  rw [if_pos e1, ← hc] at hr
  refine ⟨e1, e2, hr.uniq a4, a2, a1, ?_, fun h => by rw [e3]; exact (a5 h).2⟩
  rw [e3]
  constructor
  · intro h0
    exact Classical.byContradiction fun hlt => (a5 (by omega)).1 h0
  · intro hlt
    have := a4.up.ups (x.length - (p + q + 1))
    rw [show p + q + 1 + (x.length - (p + q + 1)) = x.length by omega] at this
    exact Int.zero_dvd.1 (this id id (fun _ h => h) fun _ h => h)
end Go.Proofs.Yteanhbldhaiekaa

