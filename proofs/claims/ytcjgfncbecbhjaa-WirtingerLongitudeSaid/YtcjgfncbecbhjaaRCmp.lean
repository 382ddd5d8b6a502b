/-
  The contract of the reference's Comp.
-/
import Derived.Test.YtcjgfncbecbhjaaRCmpM
import Derived.Test.YtcjgfncbecbhjaaRArcs
namespace Go.Proofs.Ytcjgfncbecbhjaa
open Go.RowKit

section
variable (A1 A2 : Option Addr) (c1 c2 : Nat) (sg mt : List Int) (L : Int) (w : World) (S : Nat → Prop) (hx : RI w S A1 sg) (hy : RI w S A2 mt) (hS : ∀ b, S b → b < w.heap.size)
include hx hy hS
set_option maxRecDepth 100000 in
set_option maxHeartbeats 8000000 in
theorem rcomp_ok (hd : IsD sg mt L) :
    Calls Try.prog 19 #[.agg #[.slice A1 sg.length c1, .slice A2 mt.length c2, .int .i64 L]] w fun e w' => ∃ v, e = .returned v ∧ OI w' w.heap.size v (cmpL sg mt L.toNat) ∧ Below w.heap.size w w' := by
  have HD := Lib.hid (DBox.start (c1 := c1) (c2 := c2) (L := L) S hx hy hS)
  have H := Lib.hid hd
  have hcn : arC sg mt ≤ 256 := by
    have h1 := cnt_le (headB (arR sg mt)) mt.length
    have h2 := hd.1
    have h3 := hd.2.1
    unfold arC; omega
  obtain ⟨m, hm⟩ : ∃ m, arC sg mt = m := ⟨_, rfl⟩
  rw [hm] at hcn
  have HM := Lib.hid hm
  obtain ⟨l, rfl⟩ : ∃ l : Nat, L = (l : Int) := ⟨L.toNat, by have := hd.2.2.1; omega⟩
  have hL2 : l ≤ 64 := by have := hd.2.2.2.1; omega
  have hmk := make_ints 22 Try.underlying22 m (by omega)
  clear hx hy hS hd hm
  go_enter Try.func19, Try.ntmps19
  go_wp2_with fail
  refine (rarcs_ok A1 A2 c1 c2 sg mt (l : Int) _ (· < (w.alloc (.cells #[.slice A1 sg.length c1, .slice A2 mt.length c2, .int .i64 (l : Int)] 24)).heap.size) HD.out.rs HD.out.rm (fun _ h => h) H.out).mono ?_
  rintro e w1 ⟨va, rfl, ho, hb1⟩
  rw [HM.out]
  have HD1 := Lib.hid (HD.out.below hb1)
  have HB1 := Lib.hid (below_box (o := (.cells #[.slice A1 sg.length c1, .slice A2 mt.length c2, .int .i64 (l : Int)] 24)) (by simpa using hb1))
  obtain ⟨Aa, ca, hva, -, -, hra⟩ := ho.reads
  rw [arL_len] at hva
  subst hva
  have HRA := Lib.hid (hra.imp (T := (· < w1.heap.size)) fun b hb => hb.2)
  clear ho hb1 hra HD
  have HBM := Lib.hid ((Below.refl w1.heap.size w1).alloc (Nat.le_refl _) (.cells (Array.replicate m (Value.int .i64 0)) 3))
  have HO2 : Hid (OI (w1.alloc (.cells (Array.replicate m (Value.int .i64 0)) 3)) w1.heap.size (.slice (some ⟨w1.heap.size, 0, none⟩) m m) (List.replicate m 0)) := by
    have := OI.new w1 w1.heap.size m (Nat.le_refl _) (by unfold maxLen; omega)
    exact (by simpa using this : OI _ _ _ _)
  have hdm := HD1.out.below HBM.out
  have k0 := hdm.c0
  have k1 := hdm.c1
  have k2 := hdm.c2
  clear hdm
  go_wp2_with fail
  obtain ⟨w2, hw2⟩ : ∃ x, w1.alloc (.cells (Array.replicate m (Value.int .i64 0)) 3) = x := ⟨_, rfl⟩
  obtain ⟨cb, hcb⟩ : ∃ c, w1.heap.size = c := ⟨_, rfl⟩
  have hs2 : w2.heap.size = cb + 1 := by rw [← hw2, ← hcb]; simp
  rw [hw2] at HO2 HBM k0 k1 k2 ⊢
  have HD2 := Lib.hid (HD1.out.below HBM.out)
  rw [hcb] at HO2 ⊢
  have HCB := Lib.hid hcb
  clear hw2 hcb hmk k0 k1 k2
  refine (rstrands_any A1 A2 c1 c2 sg mt (l : Int) w2 (· < w2.heap.size) HD2.out.rs HD2.out.rm (fun _ h => h) H.out).mono ?_
  rintro e w3 ⟨vs, rfl, hr, hb3⟩
  have HB3 : Hid (Below cb w1 w3) := by rw [← HCB.out]; exact HBM.out.trans (hb3.mono (by rw [hs2, HCB.out]; omega))
  have HC3 : Hid (CpS w3 w3 cb m (cpK sg mt 0 (List.replicate m 0))) := ⟨Onl.refl _ _, (HO2.out.keep fun g hg => hb3.block g (HO2.out.lt g hg).2), by rw [cpK_len]; simp⟩
  have HRA3 := Lib.hid (HRA.out.keep (w' := w3) (fun b hb => HB3.out.block b (by rw [← HCB.out]; exact hb)))
  obtain ⟨As, cs, rfl, hrl⟩ := hr.reads
  have HRL := Lib.hid hrl
  obtain ⟨ns, hns⟩ : ∃ n, (strandsL sg mt).length = n := ⟨_, rfl⟩
  have hnsb : ns ≤ 256 := by
    have h1 := strandsL_most sg mt
    have h2 := H.out.1
    have h3 := H.out.2.1
    omega
  rw [rows_cycs_length, hns]
  have HNS := Lib.hid hns
  clear hr hrl hb3 hns HO2 HD2 HBM HRA
  go_wp2_with fail
  go_loopw [7] (fun i wr => ∃ k : Nat, k ≤ ns ∧ i = .int .i64 k ∧ Hid (CpS w3 wr cb m (cpK sg mt k (List.replicate m 0)))) (fun i _ => ns - (intOf i).toNat)
  case atStart => exact ⟨0, Nat.zero_le _, rfl, HC3⟩
  case round =>
    clear HC3
    obtain ⟨i, hi, rfl, HC⟩ := hrel
    by_cases hlt : i < ns
    · have hil : i < (strandsL sg mt).length := by rw [HNS.out]; exact hlt
      have HIL := Lib.hid hil
      obtain ⟨lj, hlj⟩ : ∃ n, (stN sg mt i).length = n := ⟨_, rfl⟩
      have hljb : lj ≤ 256 := by
        have h1 := stN_len H.out.2.2.2.2.2.1 H.out.2.1 hil
        have h2 := H.out.1
        have h3 := H.out.2.1
        omega
      have HLJ := Lib.hid hlj
      have HW7 := HC
      rw [← cpJ_zero sg mt i (cpK sg mt i (List.replicate m 0))] at HC
      clear hlj hil
      go_wp2_with fail
      obtain ⟨w7, rfl⟩ : ∃ x : World, x = wr := ⟨_, rfl⟩
      go_loopw [8] (fun j' wr => ∃ j : Nat, j ≤ lj ∧ j' = .int .i64 j ∧ Hid (CpS w3 wr cb m (cpJ sg mt i j (cpK sg mt i (List.replicate m 0))))) (fun j' _ => lj - (intOf j').toNat)
      case atStart => exact ⟨0, Nat.zero_le _, rfl, HC⟩
      case round =>
        clear HC
        obtain ⟨j, hj, rfl, HC⟩ := hrel
        have hRL := HRL.out.keep (w' := wr) (fun b hb => HC.out.onl.keep b (by omega))
        obtain ⟨b, off, rfl, -, hc⟩ := hRL.at_ (k := i) (by rw [rows_cycs_length]; exact HIL.out)
        obtain ⟨Ak, ck, k3, r3, -⟩ := hc i (by rw [rows_cycs_length]; exact HIL.out)
        rw [rows_getD HIL.out, stN_eq HIL.out] at k3 r3
        rw [ints_length, HLJ.out] at k3
        by_cases hjl : j < lj
        · have hjf : j < (stN sg mt i).length := by rw [HLJ.out]; exact hjl
          obtain ⟨b2, off2, rfl, -, hc2⟩ := r3.at_ (k := j) (by rw [ints_length]; exact hjf)
          have k4 := hc2 j (by rw [ints_length]; exact hjf)
          rw [gi_ints hjf] at k4
          have hst := cpJ_succ (cpK sg mt i (List.replicate m 0)) hjf
          have hxl := stN_lt H.out.2.2.2.2.2.1 H.out.2.1 HIL.out (gN (stN sg mt i) j) (by rw [gN_lt hjf]; exact List.getElem_mem hjf)
          have hal := arN_lt H.out.2.2.2.2.2.1 H.out.2.1 hxl
          rw [HM.out] at hal
          have hra := HRA3.out.keep (w' := wr) (fun b hb => HC.out.onl.keep b (by have := HCB.out; omega))
          obtain ⟨x, hx⟩ : ∃ x, gN (stN sg mt i) j = x := ⟨_, rfl⟩
          rw [hx] at k4 hst hxl hal
          obtain ⟨b3, off3, rfl, -, hc3⟩ := hra.at_ (k := x) (by rw [arL_len]; exact hxl)
          have k5 := hc3 x (by rw [arL_len]; exact hxl)
          rw [gi_arL hxl] at k5
          obtain ⟨y, hy⟩ : ∃ y, arN sg mt x = y := ⟨_, rfl⟩
          rw [hy] at k5 hst hal
          obtain ⟨c5, f5⟩ := HC.out.at_ hal
          have HC' := Lib.hid (HC.out.store y (i : Int))
          rw [← hst] at HC'
          have i1 : (0 : Int) ≤ (x : Int) ∧ (x : Int) < (mt.length : Int) := by omega
          have i2 : (0 : Int) ≤ (y : Int) ∧ (y : Int) < (m : Int) := by omega
          clear hRL hc r3 hc2 hst hra hc3 hx hy hjf HC
          go_wp2_with fail
          go_roundw
          case rel => exact ⟨j + 1, by omega, by go_num, HC'⟩
          case measure => simp [intOf]; omega
        · obtain rfl : lj = j := by omega
          have HC' : Hid (CpS w3 wr cb m (cpK sg mt (i + 1) (List.replicate m 0))) := by
            rw [cpK_succ, HLJ.out]; exact HC.out
          clear hRL hc r3 HC hjl HW7
          go_wp2_with fail
          go_roundw
          case rel => exact ⟨i + 1, by omega, by go_num, HC'⟩
          case measure => simp [intOf]; omega
    · obtain rfl : ns = i := by omega
      have hb4 : Below cb w1 wr := HB3.out.trans HC.out.onl.bel
      have HV4 : Hid (OI wr cb (.slice (some ⟨cb, 0, none⟩) m m) (rcL sg mt 0)) := by rw [rcL_zero, HNS.out, HM.out]; exact HC.out.row
      have HB4 := Lib.hid hb4
      clear hb4 HC hlt HRL HRA3 HB3
      go_wp2_with fail
      go_loopw [5, 9] (fun v i wr => ∃ k : Nat, k ≤ l ∧ i = .int .i64 k ∧ Hid (OI wr cb v (rcL sg mt k)) ∧ Hid (Below cb w1 wr)) (fun _ i _ => l - (intOf i).toNat)
      case atStart => exact ⟨0, Nat.zero_le _, rfl, HV4, HB4⟩
      case round =>
        clear HV4 HB4
        obtain ⟨k, hk, rfl, HV, HB⟩ := hrel
        have k2 := (HD1.out.below (by rw [HCB.out]; exact HB.out)).c2
        have hsz : cb ≤ wr.heap.size := by have := HB.out.size; have := HCB.out; omega
        by_cases hlt : k < l
        · have s1 : IntKind.i64.wrap ((ns : Int) + (k : Int)) = (ns : Int) + (k : Int) := IntWalk.i64_in _ (by omega)
          have hlen : (rcL sg mt k).length < 1099511627776 := by rw [rcL_len, HM.out]; omega
          have HLE := Lib.hid hlen
          have hsu := rcL_succ sg mt k
          rw [HNS.out] at hsu
          have HSU := Lib.hid hsu
          clear hlen hsu
          go_wp2_with (at_builtin; refine app1 HV.out HLE.out hsz rfl rfl Try.underlying22 rfl rfl ?_; intro v' w' ho hg hob)
          have HV' : Hid (OI w' cb v' (rcL sg mt (k + 1))) := by rw [HSU.out]; exact ho
          have HB' := Lib.hid (HB.out.trans (HV.out.grown_below (Below.refl _ _) hsz _ hg))
          clear ho hg hob
          go_roundw
          case rel => exact ⟨k + 1, by omega, by go_num, HV', HB'⟩
          case measure => simp [intOf]; omega
        · obtain rfl : l = k := by omega
          go_wp2_with fail
          go_ret
          refine ⟨_, rfl, ?_, HB1.out.trans (HB.out.mono ?_)⟩
          · rw [show ((l : Int)).toNat = l from rfl, cmp_eq H.out.2.2.2.2.2.1 H.out.2.1]
            exact HV.out.mono (by rw [← HCB.out]; exact HB1.out.size)
          · rw [← HCB.out]; exact HB1.out.size
end
end Go.Proofs.Ytcjgfncbecbhjaa

