/-
  The contract of the reference's Arcs.
-/
import Derived.Test.YtcjgfncbecbhjaaRArcM
import Derived.Test.YtcjgfncbecbhjaaOf
namespace Go.Proofs.Ytcjgfncbecbhjaa
open Go.RowKit

/-- the numbers are given up to k -/
structure RA (sg mt : List Int) (k : Nat) (q : List Int) : Prop where
  len : q.length = mt.length
  val : ∀ x, x < k → gi q x = (arN sg mt x : Int)
theorem RA.new {sg mt : List Int} (hI : InvM mt) (hn : mt.length = 4 * sg.length) {k : Nat} {q : List Int} (h : RA sg mt k q) (hk : k < mt.length) (he : lo (arR sg mt) k = k) : RA sg mt (k + 1) (q.set k (cnt (headB (arR sg mt)) k : Int)) ∧ cnt (headB (arR sg mt)) (k + 1) = cnt (headB (arR sg mt)) k + 1 := by
  refine ⟨⟨by rw [List.length_set]; exact h.len, fun x hx => ?_⟩, by rw [cnt_succ, if_pos ((lo_head (arR_eqv hI hn) hk).2 he)]⟩
  rw [gi_set' (by rw [h.len]; exact hk)]
  split
  · rename_i e; subst e; unfold arN clN; rw [he]
  · exact h.val x (by omega)
theorem RA.old {sg mt : List Int} (hI : InvM mt) (hn : mt.length = 4 * sg.length) {k : Nat} {q : List Int} (h : RA sg mt k q) (hk : k < mt.length) (he : lo (arR sg mt) k ≠ k) : RA sg mt (k + 1) (q.set k (gi q (lo (arR sg mt) k))) ∧ cnt (headB (arR sg mt)) (k + 1) = cnt (headB (arR sg mt)) k ∧ gi q (lo (arR sg mt) k) = (arN sg mt k : Int) := by
  have hE := arR_eqv hI hn
  obtain ⟨h1, h2, h3⟩ := lo_spec hE hk
  have hv := h.val (lo (arR sg mt) k) (by omega)
  have hll : lo (arR sg mt) (lo (arR sg mt) k) = lo (arR sg mt) k := (lo_head hE (by omega)).1 h3
  have ha : arN sg mt (lo (arR sg mt) k) = arN sg mt k := by unfold arN clN; rw [hll]
  rw [ha] at hv
  refine ⟨⟨by rw [List.length_set]; exact h.len, fun x hx => ?_⟩, by rw [cnt_succ, if_neg (fun e => he ((lo_head hE hk).1 e))]; rfl, hv⟩
  rw [hv, gi_set' (by rw [h.len]; exact hk)]
  split
  · rename_i e; rw [e]
  · exact h.val x (by omega)

section
variable (A1 A2 : Option Addr) (c1 c2 : Nat) (sg mt : List Int) (L : Int) (w : World) (S : Nat → Prop) (hx : RI w S A1 sg) (hy : RI w S A2 mt) (hS : ∀ b, S b → b < w.heap.size)
include hx hy hS
set_option maxRecDepth 100000 in
set_option maxHeartbeats 8000000 in
theorem rarcs_ok (hd : IsD sg mt L) :
    Calls Try.prog 16 #[.agg #[.slice A1 sg.length c1, .slice A2 mt.length c2, .int .i64 L]] w fun e w' => ∃ v, e = .returned (.tuple #[v, .int .i64 (arC sg mt : Int)]) ∧ OI w' w.heap.size v (arL sg mt) ∧ Below w.heap.size w w' := by
  have HD := Lib.hid (DBox.start (c1 := c1) (c2 := c2) (L := L) S hx hy hS)
  have H := Lib.hid hd
  have h1 : sg.length ≤ 64 := hd.1
  have HM4 := Lib.hid hd.2.1
  have hN : mt.length ≤ 256 := by have := hd.2.1; omega
  have hmk := make_ints 22 Try.underlying22 mt.length (by omega)
  have k0 := HD.out.c0
  have k1 := HD.out.c1
  have k2 := HD.out.c2
  clear hx hy hS hd
  obtain ⟨wA, hwA⟩ : ∃ x, w.alloc (.cells #[.slice A1 sg.length c1, .slice A2 mt.length c2, .int .i64 L] 24) = x := ⟨_, rfl⟩
  have hsA : wA.heap.size = w.heap.size + 1 := by rw [← hwA]; simp
  have HBA : Hid (Below w.heap.size w wA) := by rw [← hwA]; exact (Below.refl _ _).alloc (Nat.le_refl _) _
  have HC0 : Hid (CpS (wA.alloc (.cells (Array.replicate mt.length (Value.int .i64 0)) 3)) (wA.alloc (.cells (Array.replicate mt.length (Value.int .i64 0)) 3)) (w.heap.size + 1) mt.length (List.replicate mt.length 0)) := by
    refine ⟨Onl.refl _ _, ?_, by simp⟩
    have := OI.new wA (w.heap.size + 1) mt.length (by omega) (by unfold maxLen; omega)
    rw [hsA] at this
    simpa using this
  rw [hwA] at HD
  have HSA := Lib.hid hsA
  have HWA := Lib.hid hwA
  clear hsA hwA
  go_enter Try.func16, Try.ntmps16
  go_wp2_with fail
  rw [HWA.out] at k0 k1 k2 ⊢
  have HBW : Hid (Below wA.heap.size wA (wA.alloc (.cells (Array.replicate mt.length (Value.int .i64 0)) 3))) := (Below.refl _ _).alloc (Nat.le_refl _) _
  obtain ⟨W, hW⟩ : ∃ W, wA.alloc (.cells (Array.replicate mt.length (Value.int .i64 0)) 3) = W := ⟨_, rfl⟩
  rw [hW] at HC0 HBW ⊢
  have HSW : Hid (W.heap.size = w.heap.size + 2) := by rw [← hW]; have := HSA.out; simp; omega
  clear hW k0 k1 k2 HWA
  have HX0 : Hid (∀ x, x < 0 → gi (List.replicate mt.length 0) x = (x : Int)) := fun x h => by omega
  go_loopw [6] (fun i wr => ∃ (k : Nat) (q : List Int), k ≤ mt.length ∧ i = .int .i64 k ∧ Hid (CpS W wr (w.heap.size + 1) mt.length q) ∧ Hid (∀ x, x < k → gi q x = (x : Int))) (fun i _ => mt.length - (intOf i).toNat)
  case atStart => exact ⟨0, _, Nat.zero_le _, rfl, HC0, HX0⟩
  case round =>
    clear HC0 HX0
    obtain ⟨k, q, hk, rfl, HC, HX⟩ := hrel
    by_cases hlt : k < mt.length
    · obtain ⟨k5, k6⟩ := HC.out.at_ hlt
      have HC' := Lib.hid (HC.out.store k (k : Int))
      have HX' : Hid (∀ x, x < k + 1 → gi (q.set k (k : Int)) x = (x : Int)) := fun x hx => by
        rw [gi_set' (by rw [HC.out.len]; exact hlt)]
        split
        · rename_i e; rw [e]
        · exact HX.out x (by omega)
      go_wp2_with fail
      go_roundw
      case rel => exact ⟨k + 1, _, by omega, by go_num, HC', HX'⟩
      case measure => simp [intOf]; omega
    · obtain rfl : mt.length = k := by omega
      have hq : q = ints (passA mt 0) := by
        refine ext_gi (by rw [HC.out.len, ints_length]; simp [passA]) fun x hx => ?_
        rw [HC.out.len] at hx
        rw [HX.out x hx, gi_ints (by simp [passA]; exact hx)]
        show _ = ((gN (List.range mt.length) x : Nat) : Int)
        rw [gN_range hx]
      subst hq
      clear hlt HX
      go_wp2_with fail
      go_loopw [7] (fun i wr => ∃ p : Nat, p ≤ mt.length ∧ i = .int .i64 p ∧ Hid (CpS W wr (w.heap.size + 1) mt.length (ints (passA mt p)))) (fun i _ => mt.length - (intOf i).toNat)
      case atStart => exact ⟨0, Nat.zero_le _, rfl, HC⟩
      case round =>
        clear HC
        obtain ⟨p, hp, rfl, HC⟩ := hrel
        by_cases hlt : p < mt.length
        · obtain ⟨ls, hls⟩ : ∃ ls, passA mt p = ls := ⟨_, rfl⟩
          have HLS := Lib.hid hls
          rw [hls, ← partA_zero mt ls] at HC
          have HLB : Hid (LbA sg mt ls) := by rw [← hls]; exact LbA.pass H.out.2.2.2.2.2.1 H.out.2.1 p
          clear hls
          go_wp2_with fail
          go_loopw [8] (fun i wr => ∃ k : Nat, k ≤ mt.length ∧ i = .int .i64 k ∧ Hid (CpS W wr (w.heap.size + 1) mt.length (ints (partA mt ls k)))) (fun i _ => mt.length - (intOf i).toNat)
          case atStart => exact ⟨0, Nat.zero_le _, rfl, HC⟩
          case round =>
            clear HC
            obtain ⟨k, hk, rfl, HC⟩ := hrel
            by_cases hlt2 : k < mt.length
            · have hPB := HLB.out.part H.out.2.2.2.2.2.1 H.out.2.1 k hk
              obtain ⟨e1, e2, -, -⟩ := H.out.2.2.2.2.2.1.gn hlt2
              have hdx := HD.out.below (HBW.out.trans (by rw [HSA.out]; exact HC.out.onl.bel))
              have k1 := hdx.c1
              obtain ⟨b, off, rfl, -, hc⟩ := hdx.rm.at_ (k := k) hlt2
              have k4 := hc k hlt2
              rw [e1] at k4
              have hlow : lowA mt (partA mt ls k) k = if k % 2 = 1 then min (min (gN (partA mt ls k) k) (gN (partA mt ls k) (gn mt k))) (gN (partA mt ls k) (turnN k 2)) else min (gN (partA mt ls k) k) (gN (partA mt ls k) (gn mt k)) := rfl
              obtain ⟨m, hm⟩ : ∃ m, gn mt k = m := ⟨_, rfl⟩
              rw [hm] at k4 e2 hlow
              have ht : turnN k 2 < mt.length := by have := HM4.out; unfold turnN; omega
              obtain ⟨t, hte⟩ : ∃ t, turnN k 2 = t := ⟨_, rfl⟩
              rw [hte] at ht hlow
              have HTE := Lib.hid hte
              have hgl : ∀ x, x < mt.length → gi (ints (partA mt ls k)) x = (gN (partA mt ls k) x : Int) := fun x hx => gi_ints (by rw [hPB.len]; exact hx)
              obtain ⟨p1, f1⟩ := HC.out.at_ hlt2
              obtain ⟨p2, -⟩ := HC.out.at_ e2
              obtain ⟨p3, -⟩ := HC.out.at_ ht
              rw [hgl _ hlt2] at p1
              rw [hgl _ e2] at p2
              rw [hgl _ ht] at p3
              obtain ⟨a, ha⟩ : ∃ a, gN (partA mt ls k) k = a := ⟨_, rfl⟩
              obtain ⟨b', hb'⟩ : ∃ a, gN (partA mt ls k) m = a := ⟨_, rfl⟩
              obtain ⟨c', hc'⟩ : ∃ a, gN (partA mt ls k) t = a := ⟨_, rfl⟩
              rw [ha] at p1 hlow
              rw [hb'] at p2 hlow
              rw [hc'] at p3 hlow
              have hst : ∀ y : Nat, lowA mt (partA mt ls k) k = y → CpS W (wr.setCell ⟨w.heap.size + 1, k, none⟩ (.int .i64 (y : Int))) (w.heap.size + 1) mt.length (ints (partA mt ls (k + 1))) := fun y hy => by
                have := HC.out.store k (y : Int)
                have e : (ints (partA mt ls k)).set k (y : Int) = ints (partA mt ls (k + 1)) := by
                  rw [partA_succ, hy]; unfold ints; rw [List.map_set]; rfl
                rwa [e] at this
              have HST := Lib.hid hst
              have HLOW := Lib.hid hlow
              clear hst hlow hgl hPB hc hdx hm hte ha hb' hc' e1 HC
              have j1 : (0 : Int) ≤ (m : Int) ∧ (m : Int) < (mt.length : Int) := by omega
              have j2 : (0 : Int) ≤ (t : Int) ∧ (t : Int) < (mt.length : Int) := by omega
              by_cases ho : k % 2 = 1
              · have ho' : ((k : Int) % 2 == 1) = true := by rw [beq_iff_eq]; omega
                rcases Nat.lt_or_ge b' a with hab | hab
                · have hcp : (b' : Int) < (a : Int) := by omega
                  go_wp2_with fail
                  go_region
                  go_wp2_with fail
                  refine (rturn_at k 2 _ rfl (by omega) rfl).mono ?_
                  rintro e wt ⟨rfl, rfl⟩
                  rw [HTE.out]
                  rcases Nat.lt_or_ge c' b' with hcc | hcc
                  · have hdp : (c' : Int) < (b' : Int) := by omega
                    go_wp2_with fail
                    go_roundw
                    case rel => exact ⟨k + 1, by omega, by go_num, Lib.hid ((HST.out c' (by rw [HLOW.out, if_pos ho]; omega)).drew)⟩
                    case measure => simp [intOf]; omega
                  · have hdn : ¬ ((c' : Int) < (b' : Int)) := by omega
                    go_wp2_with fail
                    go_roundw
                    case rel => exact ⟨k + 1, by omega, by go_num, Lib.hid ((HST.out b' (by rw [HLOW.out, if_pos ho]; omega)).drew)⟩
                    case measure => simp [intOf]; omega
                · have hcn : ¬ ((b' : Int) < (a : Int)) := by omega
                  go_wp2_with fail
                  go_region
                  go_wp2_with fail
                  refine (rturn_at k 2 _ rfl (by omega) rfl).mono ?_
                  rintro e wt ⟨rfl, rfl⟩
                  rw [HTE.out]
                  rcases Nat.lt_or_ge c' a with hcc | hcc
                  · have hdp : (c' : Int) < (a : Int) := by omega
                    go_wp2_with fail
                    go_roundw
                    case rel => exact ⟨k + 1, by omega, by go_num, Lib.hid ((HST.out c' (by rw [HLOW.out, if_pos ho]; omega)).drew)⟩
                    case measure => simp [intOf]; omega
                  · have hdn : ¬ ((c' : Int) < (a : Int)) := by omega
                    go_wp2_with fail
                    go_roundw
                    case rel => exact ⟨k + 1, by omega, by go_num, Lib.hid ((HST.out a (by rw [HLOW.out, if_pos ho]; omega)).drew)⟩
                    case measure => simp [intOf]; omega
              · have ho' : ((k : Int) % 2 == 1) = false := by rw [beq_eq_false_iff_ne]; omega
                rcases Nat.lt_or_ge b' a with hab | hab
                · have hcp : (b' : Int) < (a : Int) := by omega
                  go_wp2_with fail
                  go_region
                  go_wp2_with fail
                  go_roundw
                  case rel => exact ⟨k + 1, by omega, by go_num, Lib.hid ((HST.out b' (by rw [HLOW.out, if_neg ho]; omega)).drew)⟩
                  case measure => simp [intOf]; omega
                · have hcn : ¬ ((b' : Int) < (a : Int)) := by omega
                  go_wp2_with fail
                  go_region
                  go_wp2_with fail
                  go_roundw
                  case rel => exact ⟨k + 1, by omega, by go_num, Lib.hid ((HST.out a (by rw [HLOW.out, if_neg ho]; omega)).drew)⟩
                  case measure => simp [intOf]; omega
            · obtain rfl : mt.length = k := by omega
              have HC' : Hid (CpS W wr (w.heap.size + 1) mt.length (ints (passA mt (p + 1)))) := by
                show Hid (CpS W wr (w.heap.size + 1) mt.length (ints (partA mt (passA mt p) mt.length)))
                rw [HLS.out]; exact HC
              clear HC hlt2
              go_wp2_with fail
              go_roundw
              case rel => exact ⟨p + 1, by omega, by go_num, HC'⟩
              case measure => simp [intOf]; omega
        · obtain rfl : mt.length = p := by omega
          clear hlt
          have HR0 : Hid (RA sg mt 0 (List.replicate mt.length 0)) := ⟨by simp, fun x hx => by omega⟩
          have HO0 : Hid (CpS (wr.alloc (.cells (Array.replicate mt.length (Value.int .i64 0)) 3)) (wr.alloc (.cells (Array.replicate mt.length (Value.int .i64 0)) 3)) wr.heap.size mt.length (List.replicate mt.length 0)) := by
            refine ⟨Onl.refl _ _, ?_, by simp⟩
            have := OI.new wr wr.heap.size mt.length (Nat.le_refl _) (by unfold maxLen; omega)
            simpa using this
          go_wp2_with fail
          obtain ⟨gb, hgb⟩ : ∃ g, wr.heap.size = g := ⟨_, rfl⟩
          rw [hgb] at HO0 ⊢
          have HB8 : Hid (Below w.heap.size w (wr.alloc (.cells (Array.replicate mt.length (Value.int .i64 0)) 3))) :=
            ((HBA.out.trans ((HBW.out.trans (by rw [HSA.out]; exact HC.out.onl.bel)).mono (by rw [HSA.out]; omega))).alloc (by have := HC.out.onl.size; have := HSW.out; omega) _)
          have HC8 : Hid (CpS W (wr.alloc (.cells (Array.replicate mt.length (Value.int .i64 0)) 3)) (w.heap.size + 1) mt.length (ints (passA mt mt.length)) ∨ True) := .inr trivial
          have HL8 : Hid (OI (wr.alloc (.cells (Array.replicate mt.length (Value.int .i64 0)) 3)) (w.heap.size + 1) (.slice (some ⟨w.heap.size + 1, 0, none⟩) mt.length mt.length) (ints (passA mt mt.length))) := HC.out.row.alloc _
          have HGB := Lib.hid (show w.heap.size + 2 = gb by rw [← hgb, HC.out.onl.size, HSW.out])
          obtain ⟨w8, hw8⟩ : ∃ x, wr.alloc (.cells (Array.replicate mt.length (Value.int .i64 0)) 3) = x := ⟨_, rfl⟩
          rw [hw8] at HO0 HB8 HL8 ⊢
          clear hw8 hgb HC HC8 hmk
          have HM0 : Hid (cnt (headB (arR sg mt)) 0 = 0) := rfl
          go_loopw [10, 12] (fun mv i wr => ∃ (k m : Nat) (q : List Int), k ≤ mt.length ∧ i = .int .i64 k ∧ mv = .int .i64 m ∧ Hid (CpS w8 wr gb mt.length q) ∧ Hid (RA sg mt k q) ∧ Hid (cnt (headB (arR sg mt)) k = m)) (fun _ i _ => mt.length - (intOf i).toNat)
          case atStart => exact ⟨0, 0, _, Nat.zero_le _, rfl, rfl, HO0, HR0, HM0⟩
          case round =>
            clear HO0 HR0 HM0
            obtain ⟨k, m, q, hk, rfl, rfl, HC, HR, HM⟩ := hrel
            by_cases hlt : k < mt.length
            · have hll := (HL8.out.keep (w' := wr) fun g hg => HC.out.onl.keep g (by
                have : g = w.heap.size + 1 := by simpa [Value.ownBlock] using hg.symm
                have := HGB.out
                omega))
              have hpl : (passA mt mt.length).length = mt.length := (LbA.pass H.out.2.2.2.2.2.1 H.out.2.1 mt.length).len
              obtain ⟨-, -, -, -, hc, -⟩ := hll.ints_at (by rw [ints_length, hpl]; omega)
              have k4 := hc k (by rw [ints_length, hpl]; exact hlt)
              rw [gi_ints (by rw [hpl]; exact hlt), pass_lo H.out.2.2.2.2.2.1 H.out.2.1 hlt] at k4
              have hlo := (lo_spec (arR_eqv H.out.2.2.2.2.2.1 H.out.2.1) hlt).1
              obtain ⟨k5, f5⟩ := HC.out.at_ hlt
              have hmk : m ≤ k := by rw [← HM.out]; exact cnt_le _ _
              by_cases he : lo (arR sg mt) k = k
              · obtain ⟨hr1, hr2⟩ := HR.out.new H.out.2.2.2.2.2.1 H.out.2.1 hlt he
                rw [HM.out] at hr1 hr2
                rw [he] at k4
                have HR' := Lib.hid hr1
                have HM' := Lib.hid hr2
                have HC' := Lib.hid (HC.out.store k (m : Int))
                clear hll hc hr1 hr2 he hlo HC HR HM
                go_wp2_with fail
                go_roundw
                case rel => exact ⟨k + 1, m + 1, _, by omega, by go_num, by go_num, HC', HR', HM'⟩
                case measure => simp [intOf]; omega
              · obtain ⟨hr1, hr2, hr3⟩ := HR.out.old H.out.2.2.2.2.2.1 H.out.2.1 hlt he
                rw [HM.out] at hr2
                have HR' := Lib.hid hr1
                have HM' := Lib.hid hr2
                have HC' := Lib.hid (HC.out.store k (gi q (lo (arR sg mt) k)))
                obtain ⟨k6, -⟩ := HC.out.at_ (show lo (arR sg mt) k < mt.length by omega)
                obtain ⟨x, hx⟩ : ∃ x, lo (arR sg mt) k = x := ⟨_, rfl⟩
                obtain ⟨y, hy⟩ : ∃ y, gi q x = y := ⟨_, rfl⟩
                rw [hx] at k4 k6 HR' HC' hlo he
                rw [hy] at k6 HR' HC'
                have e4 : ((x : Int) == (k : Int)) = false := by rw [beq_eq_false_iff_ne]; omega
                have i1 : (0 : Int) ≤ (x : Int) ∧ (x : Int) < (mt.length : Int) := by omega
                clear hll hc hr1 hr2 hr3 he HC HR HM hx hy
                go_wp2_with fail
                go_roundw
                case rel => exact ⟨k + 1, m, _, by omega, by go_num, rfl, HC', HR', HM'⟩
                case measure => simp [intOf]; omega
            · obtain rfl : mt.length = k := by omega
              have hmc : m = arC sg mt := HM.out.symm
              go_wp2_with fail
              go_ret2
              have hq : q = arL sg mt := by
                refine ext_gi (by rw [HR.out.len]; simp [arL]) fun j hj => ?_
                rw [HR.out.len] at hj
                rw [HR.out.val j hj, gi_arL hj]
              refine ⟨.slice (some ⟨gb, 0, none⟩) mt.length mt.length, by rw [← hmc]; rfl, ?_, HB8.out.trans (HC.out.onl.bel.mono (by have := HGB.out; omega))⟩
              rw [← hq]
              exact HC.out.row.mono (by have := HGB.out; omega)
end
end Go.Proofs.Ytcjgfncbecbhjaa

