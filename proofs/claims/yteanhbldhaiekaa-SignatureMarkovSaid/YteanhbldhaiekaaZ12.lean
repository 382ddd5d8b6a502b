/-
  The contract of find.
  Small laws between the elimination's walk and its plain theory.
-/
import Derived.Test.YteanhbldhaiekaaZ11
import Derived.Test.YteanhbldhaiekaaZ09
import Derived.Deep.CutBlock
namespace Go.Proofs.Yteanhbldhaiekaa
open Go.RowKit

theorem xg_self (k : Nat) : xg k k = id := by funext x; unfold xg; split <;> (try split) <;> simp_all
/-- what find answers -/
structure FndYes (w w' : World) (S : Nat → Prop) (P : Option Addr) (bA n c : Nat) (A : Nat → Option Addr) (bs : Nat → Nat) (a : Nat → Nat → Nat) (k i j : Nat) : Prop where
  hi : k ≤ i ∧ i < n
  hj : k ≤ j ∧ j < c
  nz : a i j ≠ 0
  mx : MX w' S P bA n c (fun x => A (xg i k x)) (fun x => bs (xg i k x)) (fun x y => a (xg i k x) (xg j k y))
  fm : Fm S w w'
def b1 (i k : Nat) : Nat := if i = k then 0 else 1
set_option maxHeartbeats 4000000 in
theorem find_any {w : World} {S : Nat → Prop} {P : Option Addr} {bA n c : Nat} {A : Nat → Option Addr} {bs : Nat → Nat} {a : Nat → Nat → Nat} (k : Nat) (h : MX w S P bA n c A bs a) (hn : n ≤ 1000) (hc : c ≤ 1000) (hk : k ≤ 1000) :
    Calls Try.prog 66 #[.slice P n n, .int .i64 k] w fun e w' =>
      (e = .returned (.tuple #[.int .i64 0, .bool false]) ∧ w = w' ∧ ∀ i j, k ≤ i → i < n → k ≤ j → j < c → a i j = 0) ∨
      ∃ i j, e = .returned (.tuple #[.int .i64 (b1 i k + b1 j k : Nat), .bool true]) ∧ FndYes w w' S P bA n c A bs a k i j := by
  have HX := Lib.hid h
  clear h
  go_enter Try.func66, Try.ntmps66
  go_wp2_with fail
  go_loopw [6] (fun i' wr => ∃ i : Nat, k ≤ i ∧ (i ≤ n ∨ i = k) ∧ i' = .int .i64 i ∧ w = wr ∧ Hid (∀ x y, k ≤ x → x < i → k ≤ y → y < c → a x y = 0)) (fun i _ => n - (intOf i).toNat)
  case atStart => exact ⟨k, Nat.le_refl _, .inr rfl, rfl, rfl, fun x y h1 h2 => by omega⟩
  case round =>
    obtain ⟨i, hki, hin, rfl, rfl, HZ⟩ := hrel
    by_cases hlt : i < n
    · obtain ⟨rfl, hA, hAl⟩ := HX.out.top (by omega)
      have c1 := HX.out.hd i hlt
      clear hin
      go_wp2_with fail
      go_loopw [7] (fun j' wr => ∃ j : Nat, k ≤ j ∧ (j ≤ c ∨ j = k) ∧ j' = .int .i64 j ∧ w = wr ∧ Hid (∀ y, k ≤ y → y < j → a i y = 0)) (fun j _ => c - (intOf j).toNat)
      case atStart => exact ⟨k, Nat.le_refl _, .inr rfl, rfl, rfl, fun y h1 h2 => by omega⟩
      case round =>
        obtain ⟨j, hkj, hjn, rfl, rfl, HY⟩ := hrel
        by_cases hlj : j < c
        · obtain ⟨hAi, -, -, -⟩ := HX.out.ad i hlt (by omega)
          rw [hAi] at c1
          have c2 := HX.out.en i j hlt hlj
          obtain ⟨v, hv⟩ : ∃ v, a i j = v := ⟨_, rfl⟩
          rw [hv] at c2
          have HVV := Lib.hid hv
          have HAI := Lib.hid hAi
          clear hv hjn hAi
          by_cases h0 : v = 0
          · subst h0
            have HY' : Hid (∀ y, k ≤ y → y < j + 1 → a i y = 0) := by
              intro y h1 h2
              by_cases e : y = j
              · rw [e]; exact HVV.out
              · exact HY.out y h1 (by omega)
            clear HY HVV
            go_wp2_with fail
            go_roundw
            case rel => exact ⟨j + 1, by omega, by omega, by go_num, by trivial, HY'⟩
            case measure => simp [intOf]; omega
          · have h0' : ((v : Int) == 0) = false := by rw [beq_eq_false_iff_ne]; omega
            clear HY HZ
            go_upto_if 38 with fail
            go_cut [8] from 39 to 56 (fun e wx => e = .int .i64 (b1 i k : Nat) ∧ Hid (MX wx S (some ⟨bA, 0, none⟩) bA n c (fun x => A (xg i k x)) (fun x => bs (xg i k x)) (fun x y => a (xg i k x) y)) ∧ Hid (Fm S w wx))
            case first =>
              by_cases hik : i = k
              · subst hik
                have HR : Hid (MX w S (some ⟨bA, 0, none⟩) bA n c (fun x => A (xg i i x)) (fun x => bs (xg i i x)) (fun x y => a (xg i i x) y)) := by rw [xg_self]; exact HX.out
                have hb : b1 i i = 0 := if_pos rfl
                go_wp2_with fail
                go_meet
                case rel => exact ⟨by rw [hb]; rfl, HR, Fm.refl _ _⟩
              · have hb : b1 i k = 1 := if_neg hik
                have c3 := HX.out.hd k (by omega)
                have f1 := HX.out.fz i hlt
                have f3 := HX.out.fz k (by omega)
                have HB := Lib.hid hb
                have hne : ((i : Int) != (k : Int)) = true := by rw [bne_iff_ne]; omega
                have hR := HX.out.rows hlt (show k < n by omega)
                have hF := ((Fm.refl S w).set hA i (.slice (A k) c c)).set hA k (.slice (A i) c c)
                rw [HAI.out] at hR hF
                have HR := Lib.hid hR
                have HF := Lib.hid hF
                clear hR hF
                have c4 : ∀ (v : Value) (m : Nat), ((w.drewN m).setCell ⟨bA, i, none⟩ v).cell? ⟨bA, k, none⟩ = some (.slice (A k) c c) := fun v m => (set_other (by intro e; injection e with _ e; exact hik e)).trans c3
                clear hb
                go_wp2_with fail
                go_region
                all_goals
                  go_wp2_with fail
                  go_meet
                  case rel => exact ⟨by rw [HB.out]; rfl, HR.out.drew, HF.out.drew⟩
            case rest =>
              obtain ⟨rfl, HR, HF⟩ := hcut
              clear c1 c2
              by_cases hjk : j = k
              · subst hjk
                have hb : b1 j j = 0 := if_pos rfl
                have HE : Hid (((b1 i j : Nat) : Int) = ((b1 i j + b1 j j : Nat) : Int)) := by rw [hb]; rfl
                clear hb
                go_wp2_with fail
                go_ret2
                refine .inr ⟨i, j, by rw [HE.out]; rfl, ⟨hki, hlt⟩, ⟨hkj, hlj⟩, by rw [HVV.out]; exact h0, ?_, HF.out⟩
                rw [xg_self]
                exact HR.out
              · have hb : b1 j k = 1 := if_neg hjk
                have HE : Hid (wrap64 (((b1 i k : Nat) : Int) + 1) = ((b1 i k + b1 j k : Nat) : Int)) := by
                  have : b1 i k ≤ 1 := by unfold b1; split <;> omega
                  rw [hb]
                  rw [show ((b1 i k + 1 : Nat) : Int) = ((b1 i k : Nat) : Int) + 1 by omega]
                  exact IntWalk.wrap64_in (((b1 i k : Nat) : Int) + 1) (by omega)
                have hne : ((j : Int) != (k : Int)) = true := by rw [bne_iff_ne]; omega
                have HT := HR.out.top (by omega)
                clear hb
                go_wp2_with fail
                go_loopw [60] (fun t' wr => ∃ t : Nat, t ≤ n ∧ t' = .int .i64 t ∧ Hid (MX wr S (some ⟨bA, 0, none⟩) bA n c (fun x => A (xg i k x)) (fun x => bs (xg i k x)) (fun x y => if x < t then a (xg i k x) (xg j k y) else a (xg i k x) y)) ∧ Hid (Fm S w wr)) (fun t _ => n - (intOf t).toNat)
                case atStart => exact ⟨0, Nat.zero_le _, rfl, HR, HF⟩
                case round =>
                  clear HR HF
                  obtain ⟨t, ht, rfl, HR, HF⟩ := hrel
                  by_cases hlt2 : t < n
                  · have c1 := HR.out.hd t hlt2
                    obtain ⟨e1, e2, -, -⟩ := HR.out.ad t hlt2 (by omega)
                    rw [e1] at c1
                    have c2 := HR.out.en t j hlt2 hlj
                    have c3 := HR.out.en t k hlt2 (by omega)
                    have f2 := HR.out.fr t j hlt2 hlj
                    have f3 := HR.out.fr t k hlt2 (by omega)
                    rw [if_neg (by omega)] at c2 c3
                    have hsw := HR.out.swap hlt2 hlj (show k < c by omega) hjk
                    rw [if_neg (Nat.lt_irrefl _)] at hsw
                    rw [if_neg (Nat.lt_irrefl _)] at hsw
                    have HR' := Lib.hid (hsw.congr (b := fun x y => if x < t + 1 then a (xg i k x) (xg j k y) else a (xg i k x) y) fun x y _ _ => by
                      by_cases e : x = t
                      · subst e; rw [if_pos rfl, if_neg (Nat.lt_irrefl _), if_pos (Nat.lt_succ_self _)]
                      · rw [if_neg e]
                        by_cases e2 : x < t
                        · rw [if_pos e2, if_pos (by omega)]
                        · rw [if_neg e2, if_neg (by omega)])
                    have HF' := Lib.hid ((HF.out.set e2 j (.int .u64 (a (xg i k t) k : Nat))).set e2 k (.int .u64 (a (xg i k t) j : Nat)))
                    clear hsw HR HF e1 e2
                    generalize bs (xg i k t) = g at c1 c2 c3 f2 f3 HR' HF'
                    generalize a (xg i k t) k = p at c3 HR' HF'
                    generalize a (xg i k t) j = q at c2 HR' HF'
                    have c4 : ∀ (v : Value) (m : Nat), ((wr.drewN m).setCell ⟨g, j, none⟩ v).cell? ⟨g, k, none⟩ = some (.int .u64 (p : Nat)) := fun v m => (set_other (by intro e; injection e with _ e; exact hjk e)).trans c3
                    go_wp2_with fail
                    go_region
                    all_goals
                      go_wp2_with fail
                      go_roundw
                      case rel => exact ⟨t + 1, by omega, by go_num, HR'.out.drew, HF'.out.drew⟩
                      case measure => simp [intOf]; omega
                  · have HR' := Lib.hid (HR.out.congr (b := fun x y => a (xg i k x) (xg j k y)) fun x y hx _ => if_pos (by omega))
                    clear HR
                    go_wp2_with fail
                    go_ret2
                    refine .inr ⟨i, j, by rw [HE.out]; rfl, ⟨hki, hlt⟩, ⟨hkj, hlj⟩, by rw [HVV.out]; exact h0, HR'.out, HF.out⟩
        · have HZ' : Hid (∀ x y, k ≤ x → x < i + 1 → k ≤ y → y < c → a x y = 0) := by
            intro x y h1 h2 h3 h4
            by_cases e : x = i
            · rw [e]; exact HY.out y h3 (by omega)
            · exact HZ.out x y h1 (by omega) h3 h4
          clear HY HZ hjn
          go_wp2_with fail
          go_roundw
          case rel => exact ⟨i + 1, by omega, by omega, by go_num, by trivial, HZ'⟩
          case measure => simp [intOf]; omega
    · go_wp2_with fail
      go_ret2
      exact .inl ⟨rfl, rfl, fun i' j' h1 h2 h3 h4 => HZ.out i' j' h1 (by omega) h3 h4⟩
end Go.Proofs.Yteanhbldhaiekaa
namespace Go.Proofs.Yteanhbldhaiekaa
open Go.RowKit

theorem xg_swn (i k x : Nat) : xg i k x = swn i k x := rfl
theorem El.swap {n c r i j : Nat} {m : Mx} {a : Nat → Nat → Nat} {z : Int} (h : El n c m r a z) (hi : r ≤ i ∧ i < n) (hj : r ≤ j ∧ j < c) : El n c m r (fun x y => a (xg i r x) (xg j r y)) (if b1 i r + b1 j r = 1 then -z else z) := by
  unfold b1
  by_cases e1 : i = r
  · subst e1
    rw [if_pos rfl, xg_self]
    by_cases e2 : j = i
    · subst e2
      rw [if_pos rfl, xg_self, if_neg (by omega)]
      exact h
    · rw [if_neg e2, if_pos (by omega)]
      exact h.csw hj.1 hj.2 e2
  · rw [if_neg e1]
    by_cases e2 : j = r
    · subst e2
      rw [if_pos rfl, xg_self, if_pos (by omega)]
      exact h.rsw hi.1 hi.2 e1
    · rw [if_neg e2, if_neg (by omega)]
      have := (h.rsw hi.1 hi.2 e1).csw hj.1 hj.2 e2
      rwa [Int.neg_neg] at this
/-- the minor behind a round -/
def miN (ex mi p : Nat) : Nat := if ex = 1 then subN 0 (mi * p % PM) PM else mi * p % PM
theorem miN_lt (ex mi p : Nat) : miN ex mi p < PM := by
  unfold miN
  split
  · exact subN_lt (by decide) (Nat.mod_lt _ (by decide))
  · exact Nat.mod_lt _ (by decide)
theorem miN_mod {ex mi p : Nat} {z : Int} (h : (PM : Int) ∣ (mi : Int) - z) : (PM : Int) ∣ (miN ex mi p : Int) - (if ex = 1 then -z else z) * (p : Int) := by
  have e1 := dvd_mod PM (mi * p)
  have e2 := Int.dvd_mul_of_dvd_right (b := (p : Int)) h
  rw [Int.mul_sub, Int.mul_comm, Int.mul_comm (p : Int) z] at e2
  rw [Int.natCast_mul] at e1
  unfold miN
  by_cases e : ex = 1
  · rw [if_pos e, if_pos e, Int.neg_mul]
    have e3 := subN_eq (show 0 < PM by decide) (Nat.mod_lt (mi * p) (show 0 < PM by decide))
    generalize ((mi * p % PM : Nat) : Int) = u at e1 e3
    generalize (mi : Int) * (p : Int) = v at e1 e2
    generalize z * (p : Int) = t at e2 ⊢
    generalize ((subN 0 (mi * p % PM) PM : Nat) : Int) = x at e3 ⊢
    have := Int.dvd_sub (Int.dvd_sub e1 e3) e2
    rw [show v - u - (((0 : Nat) : Int) - u - x) - (v - t) = x - -t by omega] at this
    exact this
  · rw [if_neg e, if_neg e]
    generalize ((mi * p % PM : Nat) : Int) = u at e1 ⊢
    generalize (mi : Int) * (p : Int) = v at e1 e2
    generalize z * (p : Int) = t at e2 ⊢
    have := Int.dvd_sub e2 e1
    rwa [show v - t - (v - u) = u - t by omega] at this
theorem rs_lt {m : Nat} (hm : 0 < m) (x : Int) : rs m x < m := by
  unfold rs
  split
  · exact subN_lt hm (Nat.mod_lt _ hm)
  · exact Nat.mod_lt _ hm
theorem rs_mod {m : Nat} (hm : 0 < m) (x : Int) : (m : Int) ∣ (rs m x : Int) - x := by
  have e1 := dvd_mod m x.natAbs
  unfold rs
  split
  · have e3 := subN_eq hm (Nat.mod_lt x.natAbs hm)
    generalize ((x.natAbs % m : Nat) : Int) = u at e1 e3
    generalize ((subN 0 (x.natAbs % m) m : Nat) : Int) = y at e3 ⊢
    have := Int.dvd_sub e1 e3
    rw [show ((x.natAbs : Nat) : Int) - u - (((0 : Nat) : Int) - u - y) = y - x by omega] at this
    exact this
  · have := Int.dvd_neg.2 e1
    rwa [show -(((x.natAbs : Nat) : Int) - ((x.natAbs % m : Nat) : Int)) = ((x.natAbs % m : Nat) : Int) - x by omega] at this
theorem MX.cap {w : World} {N bA n c : Nat} {P : Option Addr} {A : Nat → Option Addr} {bs : Nat → Nat} {a : Nat → Nat → Nat} (h : MX w (fun b => N ≤ b) P bA n c A bs a) : MX w (fun b => N ≤ b ∧ b < w.heap.size) P bA n c A bs a :=
  ⟨fun hn => ⟨(h.top hn).1, ⟨(h.top hn).2.1, (h.top hn).2.2⟩, (h.top hn).2.2⟩, h.hd, h.fz, fun i hi hc => ⟨(h.ad i hi hc).1, ⟨(h.ad i hi hc).2.1, (h.ad i hi hc).2.2.1⟩, (h.ad i hi hc).2.2⟩, h.ij, h.en, h.fr⟩
end Go.Proofs.Yteanhbldhaiekaa
