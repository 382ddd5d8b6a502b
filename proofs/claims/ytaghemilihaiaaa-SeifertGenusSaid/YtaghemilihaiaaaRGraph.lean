/-
  The contract of the reference's Graph.
-/
import Derived.Test.YtaghemilihaiaaaGraphM
import Derived.Test.YtaghemilihaiaaaRLab
namespace Go.Proofs.Ytaghemilihaiaaa
open Go.RowKit

set_option maxHeartbeats 2000000 in
theorem rgraph_any (A : Option Addr) (c n : Nat) (mt : List Int) (w : World) (S : Nat → Prop) (hy : RI w S A mt) (hS : ∀ b, S b → b < w.heap.size) (hn : mt.length = 4 * n) (hI : InvM mt) (h64 : n ≤ 100000) :
    Calls Try.prog 42 #[.slice A mt.length c] w fun e w' => ∃ v, e = .returned v ∧ RR 22 w' w.heap.size (fun _ => False) v (rows (graphL mt n)) ∧ Below w.heap.size w w' := by
  have HLAB := Lib.hid (rlabel_any A c n mt w S hy hS hn hI h64)
  clear hy hS hn hI
  go_enter Try.func42, Try.ntmps42
  go_wp2_with fail
  refine HLAB.out.mono ?_
  rintro e w1 ⟨v1, rfl, ho1, hb1⟩
  obtain ⟨A1, c1, rfl, -, -, hr1⟩ := ho1.reads
  rw [ints_length, labN_length]
  have HR1 := Lib.hid (hr1.imp (T := (· < w1.heap.size)) fun b hb => hb.2)
  have HB1 := Lib.hid hb1
  clear ho1 hr1 hb1 HLAB
  go_wp2_with fail
  go_loopw [4, 5] (fun v i wr => ∃ k : Nat, k ≤ n ∧ i = .int .i64 k ∧ Hid (RR 22 wr w1.heap.size (fun _ => False) v (rows (graphU mt n k))) ∧ Hid (Below w1.heap.size w1 wr)) (fun _ i _ => n - (intOf i).toNat)
  case atStart => exact ⟨0, Nat.zero_le _, rfl, RR.nil _ _ _, Below.refl _ _⟩
  case round =>
    obtain ⟨k, hk, rfl, HR, HB⟩ := hrel
    by_cases hlt : k < n
    · obtain ⟨bl, ol, rfl, hbl, hcl⟩ := HR1.out.at_ (k := k) (by rw [ints_length, labN_length]; exact hlt)
      have HCL : Hid (∀ wr, Below w1.heap.size w1 wr → ∀ b, b < n → wr.cell? ⟨bl, ol + b, none⟩ = some (.int .i64 (labAt mt n b))) := by
        intro wr hb b hbn
        rw [hb.cell (p := ⟨bl, ol + b, none⟩) hbl, hcl b (by rw [ints_length, labN_length]; exact hbn), gi_ints (by rw [labN_length]; exact hbn)]
        rfl
      have k1 := HCL.out wr HB.out k hlt
      have hsucc := graphU_succ mt n k
      clear hcl
      by_cases hrep : labAt mt n k = k
      case neg =>
        have hne : (((labAt mt n k : Nat) : Int) != (k : Int)) = true := by rw [bne_iff_ne]; omega
        rw [if_neg hrep, List.append_nil] at hsucc
        have HR' : Hid (RR 22 wr w1.heap.size (fun _ => False) u4 (rows (graphU mt n (k + 1)))) := by rw [hsucc]; exact HR.out
        clear hsucc hrep
        go_wp2_with fail
        go_roundw
        case rel => exact ⟨k + 1, by omega, by go_num, HR', HB⟩
        case measure => simp [intOf]; omega
      have hne : (((labAt mt n k : Nat) : Int) != (k : Int)) = false := by rw [bne_eq_false_iff_eq]; omega
      rw [if_pos hrep] at hsucc
      have HSU := Lib.hid hsucc
      have HREP := Lib.hid hrep
      clear hsucc hrep
      go_wp2_with fail
      clear k1 hne
      obtain ⟨w2, rfl⟩ : ∃ x : World, x = wr := ⟨_, rfl⟩
      have hs2 := HB.out.size
      go_loopw [6, 7] (fun v i wr => ∃ b : Nat, b ≤ n ∧ i = .int .i64 b ∧ Hid (OI wr w2.heap.size v (ints (memb mt n k b))) ∧ Hid (Below w2.heap.size w2 wr)) (fun _ i _ => n - (intOf i).toNat)
      case atStart => exact ⟨0, Nat.zero_le _, rfl, OR.nil _ _, Below.refl _ _⟩
      case round =>
        obtain ⟨b, hb, rfl, HO, HC⟩ := hrel
        have hms := memb_succ mt n k b
        have hml := memb_length mt n k b
        by_cases hbn : b < n
        · have k2 := HCL.out wr (HB.out.trans (HC.out.mono hs2)) b hbn
          by_cases hl : labAt mt n b = k
          · have hne : (((labAt mt n b : Nat) : Int) == (k : Int)) = true := by rw [beq_iff_eq]; omega
            rw [if_pos hl] at hms
            have HMS := Lib.hid hms
            have HL := Lib.hid (show (ints (memb mt n k b)).length < 1099511627776 by rw [ints_length]; omega)
            have hsz := HC.out.size
            clear hms hl hml
            go_wp2_with (at_builtin; refine app1 HO.out HL.out hsz rfl rfl Try.underlying22 rfl rfl ?_; intro v' w' ho hg hob)
            have hbn' := HO.out.grown_below HC.out hsz _ hg
            have HO' : Hid (OI w' w2.heap.size v' (ints (memb mt n k (b + 1)))) := by
              rw [HMS.out, ints_append]
              exact ho
            go_roundw
            case rel => exact ⟨b + 1, by omega, by go_num, HO', hbn'⟩
            case measure => simp [intOf]; omega
          · have hne : (((labAt mt n b : Nat) : Int) == (k : Int)) = false := by rw [beq_eq_false_iff_ne]; omega
            rw [if_neg hl, List.append_nil] at hms
            have HO' : Hid (OI wr w2.heap.size u6 (ints (memb mt n k (b + 1)))) := by rw [hms]; exact HO.out
            clear hms hl hml
            go_wp2_with fail
            go_roundw
            case rel => exact ⟨b + 1, by omega, by go_num, HO', HC⟩
            case measure => simp [intOf]; omega
        · obtain rfl : n = b := by omega
          clear hms hml hbn
          obtain ⟨Au, cu, rfl, -, -, -⟩ := HO.out.shape
          obtain ⟨vs, hvs⟩ := (HR.out.below HC.out (Nat.le_refl _))
          have HV := Lib.hid hvs
          have hvl : vs.length < 1099511627776 := by
            have h1 := rows_len hvs
            rw [rows_cycs_length] at h1
            have h2 := graphU_length mt n k
            omega
          have HVL := Lib.hid hvl
          have HBW := Lib.hid (HB.out.trans (HC.out.mono hs2))
          have hszw := HBW.out.size
          clear hvs hvl
          go_wp2_with (at_builtin; refine app_row (f := id) (y := Value.slice Au (ints (memb mt n k n)).length cu) row_info rfl (by decide) rfl HV.out.1 HVL.out hszw rfl rfl Try.underlying27 rfl rfl ?_; intro v' w' ho hg hob)
          have hR := RRv.push (by decide) HV.out (HO.out.mono hs2) (fun _ _ h => h) (fun b hF => hF.elim) ho hg hob
          have HBN := Lib.hid (HV.out.1.grown_below HBW.out hszw _ hg)
          have HR2 : Hid (RR 22 w' w1.heap.size (fun _ => False) v' (rows (graphU mt n (k + 1)))) := by
            rw [HSU.out]
            unfold rows
            rw [List.map_append]
            exact ⟨_, hR⟩
          clear ho hg hob hR
          go_roundw
          case rel => exact ⟨k + 1, by omega, by go_num, HR2, HBN⟩
          case measure => simp [intOf]; omega
    · obtain rfl : n = k := by omega
      have HR2 : Hid (RR 22 wr w.heap.size (fun _ => False) u4 (rows (graphL mt n))) := HR.out.mono HB1.out.size
      have HBF := Lib.hid (HB1.out.trans (HB.out.mono HB1.out.size))
      clear HR hlt
      go_wp2_with fail
      go_ret
      exact ⟨_, rfl, HR2.out, HBF.out⟩
end Go.Proofs.Ytaghemilihaiaaa

