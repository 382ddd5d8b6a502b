/-
  The contract of the reference's Rank.
-/
import Derived.Test.YtmmcpahaekpknaaRankM
import Derived.Test.YtmmcpahaekpknaaRefCat
import Derived.Test.YtmmcpahaekpknaaRefAll
namespace Go.Proofs.Ytmmcpahaekpknaa
open Go.RowKit

theorem segL_take {xs : List Int} {lo m q : Nat} (h : q < m) : (segL xs lo m).take q ++ [gi xs (q + lo) - (lo : Int)] = (segL xs lo m).take (q + 1) := by
  have hl : q < (segL xs lo m).length := by rw [segL_length]; exact h
  rw [List.take_succ_eq_append_getElem hl, ← gi_lt hl, gi_segL h]

theorem refcat_at {a : Int} (n : Nat) (w : World) (hn : n ≤ 30) (ha : a = (n : Int)) :
    Calls Try.prog 15 #[.int .i64 a] w fun e w' => e = .returned (.int .i64 (catN n)) ∧ Below w.heap.size w w' := by
  subst ha
  exact refcat_any n w hn

set_option maxRecDepth 100000 in
set_option maxHeartbeats 4000000 in
theorem refrank_any : ∀ (f : Nat) (A : Option Addr) (c : Nat) (xs : List Int) (w : World), xs.length < f → RI w (· < w.heap.size) A xs → IsM xs →
    Calls Try.prog 26 #[.slice A xs.length c] w fun e w' => e = .returned (.int .i64 (rk xs)) ∧ Below w.heap.size w w' := by
  intro f
  induction f with
  | zero => intro A c xs w h; omega
  | succ f ih =>
    intro A c xs w hf hx hM
    have IH := Lib.hid ih
    clear ih
    have h48 := hM.2.1
    by_cases h0 : xs.length = 0
    · have hr := Lib.hid (rk_nil h0)
      have hb0 : ((xs.length : Int) == 0) = true := by rw [beq_iff_eq]; omega
      go_enter Try.func26, Try.ntmps26
      go_wp2_with fail
      go_ret
      exact ⟨ret_int (by rw [hr.out]; rfl), Below.refl _ _⟩
    · have hb0 : ((xs.length : Int) == 0) = false := by rw [beq_eq_false_iff_ne]; omega
      have hpos : 0 < xs.length := by omega
      obtain ⟨k, hk, hk2⟩ := first_arc hM hpos
      have hgk : gi xs 0 = 2 * (k : Int) + 1 := by
        have h1 := (isM_gn hM hpos).2.2.2
        rw [hk] at h1
        omega
      obtain ⟨n, hn⟩ : ∃ n, xs.length = 2 * n := ⟨xs.length / 2, by have := hM.1; omega⟩
      obtain ⟨b, off, rfl, hbw, hc⟩ := hx.at_ hpos
      have c1 := hc 0 hpos
      rw [hgk, Nat.add_zero] at c1
      have i1 : (0 : Int) < xs.length := by omega
      have q1 : (xs.length : Int) / 2 = n := by omega
      have q2 : 2 * (k : Int) / 2 = k := by omega
      have k24 : k ≤ 24 := by omega
      have n24 : n ≤ 24 := by omega
      have HC := Lib.hid hc
      have HK := Lib.hid hk
      have HM := Lib.hid hM
      have HN := Lib.hid hn
      have hkn : k + 1 ≤ n := by omega
      have hn48 : 2 * n ≤ 48 := by omega
      clear hc hgk hk hM hn
      go_enter Try.func26, Try.ntmps26
      go_wp2_with fail
      go_quiet (fail)
      go_wp2_with fail
      have hcb := (cat_bounds (show n < 31 by omega)).2.1
      have hfull := conv_full n (by omega) (by omega)
      have hb0' : Below w.heap.size w (w.drewN nq) := below_drewN (Below.refl _ _) nq
      clear q1 q2
      go_loopw [5, 6] (fun bf j wr => ∃ (t : Nat), t ≤ k ∧ j = .int .i64 t ∧ bf = .int .i64 (convC n t) ∧ Below w.heap.size w wr) (fun _ j _ => k - (intOf j).toNat)
      case atStart => exact ⟨0, Nat.zero_le _, rfl, rfl, hb0'⟩
      case round =>
        obtain ⟨t, ht, rfl, rfl, hbel⟩ := hrel
        clear hb0'
        have hsz := hbel.size
        by_cases hlt : t < k
        · have hcl : convC n (t + 1) ≤ convC n n := conv_le (by omega)
          have hcs : convC n (t + 1) = convC n t + catN t * catN (n - 1 - t) := rfl
          have p1 : (0 : Int) ≤ (catN t : Int) * (catN (n - 1 - t) : Int) := Int.mul_nonneg (by omega) (by omega)
          have p2 : (convC n (t + 1) : Int) = (convC n t : Int) + (catN t : Int) * (catN (n - 1 - t) : Int) := by rw [hcs]; simp
          have p3 : (convC n t : Int) + (catN t : Int) * (catN (n - 1 - t) : Int) ≤ 4611686018427387904 := by omega
          have P2 := Lib.hid p2
          clear hcs p2
          go_wp2_with fail
          refine (refcat_at t _ (by omega) rfl).mono ?_
          rintro e w1 ⟨rfl, hb1⟩
          have hs1 := hb1.size
          go_wp2_with fail
          refine (refcat_at (n - 1 - t) _ (by omega) (by omega)).mono ?_
          rintro e w2 ⟨rfl, hb2⟩
          have hbn := (hbel.trans (hb1.mono hsz)).trans (hb2.mono (by omega))
          go_wp2_with fail
          go_roundw
          case rel => exact ⟨t + 1, by omega, by go_num, by rw [P2.out], hbn⟩
          case measure => simp [intOf]; omega
        · have htk : t = k := by omega
          subst htk
          obtain ⟨wa, rfl⟩ : ∃ x : World, x = wr := ⟨_, rfl⟩
          have hk2' : 2 * (t : Int) ≤ 48 := by omega
          have hkx : 2 * t + 2 ≤ xs.length := hk2
          clear c1
          go_wp2_with fail
          go_loopw [7, 9] (fun v j wr => ∃ (q : Nat), q ≤ 2 * t ∧ j = .int .i64 ((q : Int) + 1) ∧ Hid (OI wr wa.heap.size v ((segL xs 1 (2 * t)).take q)) ∧ Below wa.heap.size wa wr) (fun _ j _ => 2 * t + 1 - (intOf j).toNat)
          case atStart => exact ⟨0, Nat.zero_le _, rfl, OR.nil _ _, Below.refl _ _⟩
          case round =>
            obtain ⟨q, hq, rfl, HO, hbc⟩ := hrel
            have hsc := hbc.size
            have hol : ((segL xs 1 (2 * t)).take q).length ≤ 48 := by rw [List.length_take, segL_length]; omega
            by_cases hlq : q < 2 * t
            · have hbw' := hbel.trans (hbc.mono hsz)
              have c2 : wr.cell? ⟨b, off + (q + 1), none⟩ = some (.int .i64 (gi xs (q + 1))) := (hbw'.cell (p := ⟨b, off + (q + 1), none⟩) hbw).trans (HC.out (q + 1) (by omega))
              obtain ⟨r1, r2, -, -⟩ := HM.out.2.2.1 (q + 1) (by omega)
              have i2 : (0 : Int) ≤ (q : Int) + 1 ∧ (q : Int) + 1 < xs.length := by omega
              have e4 : ((q : Int) + 1).toNat = q + 1 := by omega
              have i3 : (q : Int) + 1 ≤ 2 * (t : Int) := by omega
              have HT := Lib.hid (segL_take (xs := xs) (lo := 1) hlq)
              clear hbw'
              go_wp2_with (at_builtin; refine app1 HO.out (by omega) hsc rfl rfl Try.underlying22 rfl rfl ?_; intro v' w' ho hg hob)
              go_roundw
              case rel => exact ⟨q + 1, by omega, by go_num, by rw [← HT.out]; exact ho, HO.out.grown_below hbc hsc _ hg⟩
              case measure => simp [intOf]; omega
            · have i3 : ¬ (q : Int) + 1 ≤ 2 * (t : Int) := by omega
              have HO1 : Hid (OI wr wa.heap.size u7 (segL xs 1 (2 * t))) := by
                have := HO.out
                rw [List.take_of_length_le (by rw [segL_length]; omega)] at this
                exact this
              clear HO
              go_wp2_with fail
              obtain ⟨wb, rfl⟩ : ∃ x : World, x = wr := ⟨_, rfl⟩
              have hbB : Below w.heap.size w wb := hbel.trans (hbc.mono hsz)
              have hsB := hbB.size
              obtain ⟨Ai, ci, rfl, -, -, ri0⟩ := HO1.out.reads
              have hri : RI wb (· < wb.heap.size) Ai (segL xs 1 (2 * t)) := ri0.imp fun b hb => hb.2
              have HRI := Lib.hid hri
              clear hbc hbel HO1 ri0 hri hsc hol hlq hq i3
              have hxl : xs.length = 2 * t + 2 + (xs.length - (2 * t + 2)) := by omega
              obtain ⟨l, hl⟩ : ∃ l, xs.length - (2 * t + 2) = l := ⟨_, rfl⟩
              rw [hl] at hxl
              have hla : 2 * t + 2 + l ≤ xs.length := by omega
              have hlb : xs.length ≤ 2 * t + 2 + l := by omega
              have HL := Lib.hid hl
              clear hxl hl
              go_loopw [8, 10] (fun v j wr => ∃ (q : Nat), q ≤ l ∧ j = .int .i64 (2 * (t : Int) + 2 + (q : Int)) ∧ Hid (OI wr wb.heap.size v ((segL xs (2 * t + 2) l).take q)) ∧ Below wb.heap.size wb wr) (fun _ j _ => xs.length - (intOf j).toNat)
              case atStart => exact ⟨0, Nat.zero_le _, by simp, OR.nil _ _, Below.refl _ _⟩
              case round =>
                obtain ⟨q, hq, rfl, HO, hbc⟩ := hrel
                have hsc := hbc.size
                have hol : ((segL xs (2 * t + 2) l).take q).length ≤ 48 := by rw [List.length_take, segL_length]; omega
                by_cases hlq : q < l
                · have hbw' := hbB.trans (hbc.mono hsB)
                  have c2 : wr.cell? ⟨b, off + (2 * t + 2 + q), none⟩ = some (.int .i64 (gi xs (2 * t + 2 + q))) := (hbw'.cell (p := ⟨b, off + (2 * t + 2 + q), none⟩) hbw).trans (HC.out (2 * t + 2 + q) (by omega))
                  obtain ⟨r1, r2, -, -⟩ := HM.out.2.2.1 (2 * t + 2 + q) (by omega)
                  have i2 : (0 : Int) ≤ 2 * (t : Int) + 2 + (q : Int) ∧ 2 * (t : Int) + 2 + (q : Int) < xs.length := by omega
                  have e4 : (2 * (t : Int) + 2 + (q : Int)).toNat = 2 * t + 2 + q := by omega
                  have HT := Lib.hid (segL_take (xs := xs) (lo := 2 * t + 2) hlq)
                  have HS := Lib.hid (show gi xs (2 * t + 2 + q) - 2 * (t : Int) - 2 = gi xs (q + (2 * t + 2)) - ((2 * t + 2 : Nat) : Int) by rw [Nat.add_comm q]; omega)
                  clear hbw'
                  go_wp2_with (at_builtin; refine app1 HO.out (by omega) hsc rfl rfl Try.underlying22 rfl rfl ?_; intro v' w' ho hg hob)
                  go_roundw
                  case rel => first | exact ⟨q + 1, by omega, by go_num, by rw [← HT.out, ← HS.out]; exact ho, HO.out.grown_below hbc hsc _ hg⟩ | ((repeat apply Exists.intro); exact ⟨⟨q + 1, by omega, by go_num, by rw [← HT.out, ← HS.out]; exact ho, HO.out.grown_below hbc hsc _ hg⟩, rfl⟩)
                  case measure => simp [intOf]; omega
                · have i3 : ¬ 2 * (t : Int) + 2 + (q : Int) < xs.length := by omega
                  have HO1 : Hid (OI wr wb.heap.size u8 (segL xs (2 * t + 2) l)) := by
                    have := HO.out
                    rw [List.take_of_length_le (by rw [segL_length]; omega)] at this
                    exact this
                  clear HO
                  obtain ⟨Ao, co, rfl, -, -, ro0⟩ := HO1.out.reads
                  have hbE : Below w.heap.size w wr := hbB.trans (hbc.mono hsB)
                  have hsE := hbE.size
                  have HI : Hid (RI wr (· < wr.heap.size) Ai (segL xs 1 (2 * t))) := (HRI.out.below hbc).imp fun b hb => by omega
                  have HO2 : Hid (RI wr (· < wr.heap.size) Ao (segL xs (2 * t + 2) l)) := ro0.imp fun b hb => hb.2
                  obtain ⟨d1, d2, -⟩ := decomp HM.out hpos HK.out
                  have hrk := rk_eq HM.out hpos HK.out
                  have hlt2 := rk_lt _ _ HM.out (Nat.lt_succ_self _)
                  have e3 : xs.length / 2 = n := by have := HN.out; omega
                  rw [e3] at hlt2
                  rw [e3, HL.out] at hrk
                  rw [HL.out] at d2
                  have hz : (rk xs : Int) = (convC n t : Int) + (rk (segL xs 1 (2 * t)) : Int) * (catN (n - 1 - t) : Int) + (rk (segL xs (2 * t + 2) l) : Int) := by rw [hrk]; simp
                  have p1 : (0 : Int) ≤ (rk (segL xs 1 (2 * t)) : Int) * (catN (n - 1 - t) : Int) := Int.mul_nonneg (by omega) (by omega)
                  have p3 : (convC n t : Int) + (rk (segL xs 1 (2 * t)) : Int) * (catN (n - 1 - t) : Int) ≤ 4611686018427387904 := by omega
                  have p4 : (convC n t : Int) + (rk (segL xs 1 (2 * t)) : Int) * (catN (n - 1 - t) : Int) + (rk (segL xs (2 * t + 2) l) : Int) ≤ 4611686018427387904 := by omega
                  have HZ := Lib.hid hz
                  have D1 := Lib.hid d1
                  have D2 := Lib.hid d2
                  clear hz hrk hlt2 e3 d1 d2 ro0 HO1 hbc HRI hbB
                  go_wp2_with fail
                  refine (IH.out Ai ci (segL xs 1 (2 * t)) _ (by rw [segL_length]; omega) HI.out D1.out).mono ?_
                  rintro e w5 ⟨rfl, hb5⟩
                  have hs5 := hb5.size
                  go_wp2_with fail
                  refine (refcat_at (n - 1 - t) _ (by omega) (by omega)).mono ?_
                  rintro e w6 ⟨rfl, hb6⟩
                  have hs6 := hb6.size
                  have HO3 : Hid (RI w6 (· < w6.heap.size) Ao (segL xs (2 * t + 2) l)) := ((HO2.out.below hb5).below (hb6.mono hs5)).imp fun b hb => by omega
                  go_wp2_with fail
                  refine (IH.out Ao co (segL xs (2 * t + 2) l) _ (by rw [segL_length]; omega) HO3.out D2.out).mono ?_
                  rintro e w7 ⟨rfl, hb7⟩
                  have hbf := ((hbE.trans (hb5.mono hsE)).trans (hb6.mono (by omega))).trans (hb7.mono (by omega))
                  go_wp2_with fail
                  go_ret
                  exact ⟨ret_int HZ.out.symm, hbf⟩
end Go.Proofs.Ytmmcpahaekpknaa
