/-
  The law WirtingerCommutes, walked: the call returns true and writes nothing that was there.
-/
import Derived.Test.YtcjgfncbecbhjaaAw22
import Derived.Test.YtcjgfncbecbhjaaMul
import Derived.Test.YtcjgfncbecbhjaaCommM
import Derived.Test.YtcjgfncbecbhjaaLong
import Derived.Test.YtcjgfncbecbhjaaDArg
namespace Go.Proofs.Ytcjgfncbecbhjaa
open Go.RowKit

/-- a list of two words -/
theorem rl_two {w : World} {A B : Option Addr} {c d : Nat} {xs ys : List Int} (hx : RI w (· < w.heap.size) A xs) (hy : RI w (· < w.heap.size) B ys) (hm : xs.length ≤ maxLen) (hn : ys.length ≤ maxLen) :
    RL (w.alloc (.cells #[.slice A xs.length c, .slice B ys.length d] 42)) (· < w.heap.size + 1) (some ⟨w.heap.size, 0, none⟩) [xs, ys] := fun _ => by
  have h := heap_alloc_new w (.cells #[.slice A xs.length c, .slice B ys.length d] 42)
  have ka := (hx.keep (w' := w.alloc (.cells #[.slice A xs.length c, .slice B ys.length d] 42)) fun b hb => Below.heap_alloc w _ b hb).imp (T := (· < w.heap.size + 1)) fun b hb => Nat.lt_succ_of_lt hb
  have kb := (hy.keep (w' := w.alloc (.cells #[.slice A xs.length c, .slice B ys.length d] 42)) fun b hb => Below.heap_alloc w _ b hb).imp (T := (· < w.heap.size + 1)) fun b hb => Nat.lt_succ_of_lt hb
  refine ⟨w.heap.size, 0, rfl, Nat.lt_succ_self _, fun k hk => ?_⟩
  rcases (show k = 0 ∨ k = 1 by simp at hk; omega) with rfl | rfl
  · exact ⟨A, c, by rw [cell_of_row _ _ _ _ _ _ h]; rfl, ka, hm⟩
  · exact ⟨B, d, by rw [cell_of_row _ _ _ _ _ _ h]; rfl, kb, hn⟩
theorem box1_cell (w : World) (v : Value) (ty : TypeId) : (w.alloc (.cells #[v] ty)).cell? ⟨w.heap.size, 0, none⟩ = some v := by
  have h := heap_alloc_new w (.cells #[v] ty)
  rw [cell_of_row _ _ _ _ _ _ h]; rfl
theorem lon_short {sg mt : List Int} {L : Int} (hd : IsD sg mt L) {i : Nat} (hi : i < (strandsL sg mt).length) : (lonL sg mt i).length ≤ 1000 := by
  have h1 := redF_len [] (lonW sg mt i (lnS sg mt i (stN sg mt i).length).natAbs)
  have h2 := lonW_len (sg := sg) (mt := mt) (i := i) (k := (lnS sg mt i (stN sg mt i).length).natAbs)
  have h3 := lnS_bd hd hi _ (Nat.le_refl (stN sg mt i).length)
  have h4 := stN_len hd.2.2.2.2.2.1 hd.2.1 hi
  have h5 := hd.1
  have h6 := hd.2.1
  unfold lonL redL
  simp only [List.length_nil] at h1
  omega
theorem lon_bd {sg mt : List Int} {L : Int} (hd : IsD sg mt L) {i : Nat} (hi : i < (strandsL sg mt).length) : Bd (lonL sg mt i) := fun k hk => by
  have hc : arC sg mt ≤ 256 := by
    have h1 := cnt_le (headB (arR sg mt)) mt.length
    have h2 := hd.1
    have h3 := hd.2.1
    unfold arC; omega
  have h := red_sub (P := fun x => -1000 ≤ x ∧ x ≤ 1000) (st := []) (fun _ h => by cases h) (fun x hx => by
    obtain ⟨a, ha, e⟩ := lonW_mem hd hi (k := (lnS sg mt i (stN sg mt i).length).natAbs) x hx
    omega) _ (List.getElem_mem hk)
  rw [gi_lt hk]
  omega
theorem mul_is (A : Option Addr) (c n : Nat) (wss : List (List Int)) (w : World) (T : Nat → Prop) (hx : RL w T A wss) (hT : ∀ b, T b → b < w.heap.size) (hn : wss.length = n) (hm : n ≤ 1000) (hb : ∀ k, k < n → Bd (wss.getD k []) ∧ (wss.getD k []).length ≤ 1000) :
    Calls Try.prog 39 #[.slice A n c] w fun e w' => ∃ v, e = .returned v ∧ OI w' w.heap.size v (mulW wss) ∧ Below w.heap.size w w' := by
  subst hn
  exact mul_any A c wss w T hx hT hm hb
theorem each_com {sg mt : List Int} {L : Int} (hd : IsD sg mt L) {i l g n : Nat} (hi : i < (strandsL sg mt).length) (hg : arC sg mt + l = g) (hg5 : g ≤ 5) {w : World} {b1 b2 : Nat} {Au Av : Option Addr} {cu cv : Nat}
    (hc : ∀ Al ls, RT w (· < w.heap.size) Al ls → CmS w b1 b2 Au Av Al cu cv (redF (redF [] [lnF sg mt i]) (lonL sg mt i)) (redF (redF [] (lonL sg mt i)) [lnF sg mt i]) ls) (hn : n = sg.length) :
    EachOk 40 #[.pointer (some ⟨b1, 0, none⟩), .pointer (some ⟨b2, 0, none⟩)] g (wrdL sg mt n) w := by
  subst hn
  intro W A c ls hb hll hdg hom hrt
  have hll' : ls.length = arC sg mt + l := by rw [hll, hg]
  have hrel : ∀ c, c < sg.length → imgD ls (redL (relL sg mt c)) = 0 := fun c hc => by
    unfold homB at hom
    rw [List.all_eq_true] at hom
    exact of_decide_eq_true (hom _ (List.mem_map.2 ⟨c, List.mem_range.2 hc, rfl⟩))
  obtain ⟨e, wu, wv⟩ := words_comm hd hdg hll' hrel hi
  rw [hll] at wu wv
  have h0 := hc none [] (fun h => absurd rfl h)
  have hb' := h0.below hb
  have hl := lon_short hd hi
  have l1 := redF_len (redF [] [lnF sg mt i]) (lonL sg mt i)
  have l2 := redF_len [] [lnF sg mt i]
  have l3 := redF_len (redF [] (lonL sg mt i)) [lnF sg mt i]
  have l4 := redF_len [] (lonL sg mt i)
  simp only [List.length_nil, List.length_cons] at l1 l2 l3 l4
  exact com1_any b1 b2 Au Av A cu cv c g _ _ ls W ⟨hb'.c1, hb'.c2, hb'.ru, hb'.rv, hrt⟩ hll (by omega) (by omega) (by omega) wu wv hdg e
section
variable (A1 A2 : Option Addr) (c1 c2 : Nat) (sg mt : List Int) (L : Int) (w : World) (hd : DArg w A1 A2 sg mt L)
include hd

set_option maxHeartbeats 8000000 in
theorem wml_great (kk : Int) (hf : ¬ fewB sg mt L) :
    Calls Try.prog 10 #[.agg #[.slice A1 sg.length c1, .slice A2 mt.length c2, .int .i64 L], .int .u8 kk] w fun e w' => e = .returned (.bool true) ∧ Below w.heap.size w w' := by
  have HD := Lib.hid (DBox.start (c1 := c1) (c2 := c2) (L := L) (· < w.heap.size) hd.rs hd.rm (fun _ h => h))
  have HL1 := Lib.hid hd.ls
  have HL2 := Lib.hid hd.lm
  have HF := Lib.hid hf
  clear hd hf
  go_enter Try.func10, Try.ntmps10
  go_wp2_with fail
  refine (awake22 _).mono ?_
  rintro e w1 ⟨rfl, hb⟩
  have HD1 := Lib.hid (HD.out.below hb)
  have HB1 := Lib.hid (below_box (o := (.cells #[.slice A1 sg.length c1, .slice A2 mt.length c2, .int .i64 L] 24)) (by simpa using hb))
  clear hb
  have k0 := HD1.out.c0
  have k1 := HD1.out.c1
  have k2 := HD1.out.c2
  go_wp2_with fail
  refine (few_no A1 A2 c1 c2 sg mt L w1 HF.out).mono ?_
  rintro e w2 ⟨rfl, hb⟩
  have HD2 := Lib.hid (HD1.out.below hb)
  have HB2 := Lib.hid (HB1.out.trans (hb.mono HB1.out.size))
  clear hb k0 k1 k2 HD1 HB1
  have k0 := HD2.out.c0
  have k1 := HD2.out.c1
  have k2 := HD2.out.c2
  go_wp2_with fail
  refine (awake22 _).mono ?_
  rintro e w3 ⟨rfl, hb⟩
  have HD3 := Lib.hid (HD2.out.below hb)
  have HB3 := Lib.hid (HB2.out.trans (hb.mono HB2.out.size))
  clear hb k0 k1 k2 HD2 HB2
  have k0 := HD3.out.c0
  have k1 := HD3.out.c1
  have k2 := HD3.out.c2
  go_wp2_with fail
  go_ret
  exact ⟨rfl, HB3.out⟩

set_option maxHeartbeats 8000000 in
theorem wml_no (kk : Int) (hf : fewB sg mt L) (hno : ¬ IsD sg mt L) :
    Calls Try.prog 10 #[.agg #[.slice A1 sg.length c1, .slice A2 mt.length c2, .int .i64 L], .int .u8 kk] w fun e w' => e = .returned (.bool true) ∧ Below w.heap.size w w' := by
  have HD := Lib.hid (DBox.start (c1 := c1) (c2 := c2) (L := L) (· < w.heap.size) hd.rs hd.rm (fun _ h => h))
  have HL1 := Lib.hid hd.ls
  have HL2 := Lib.hid hd.lm
  have HF := Lib.hid hf
  have HR := Lib.hid (decide_eq_false hno)
  clear hd hf hno
  go_enter Try.func10, Try.ntmps10
  go_wp2_with fail
  refine (awake22 _).mono ?_
  rintro e w1 ⟨rfl, hb⟩
  have HD1 := Lib.hid (HD.out.below hb)
  have HB1 := Lib.hid (below_box (o := (.cells #[.slice A1 sg.length c1, .slice A2 mt.length c2, .int .i64 L] 24)) (by simpa using hb))
  clear hb
  have k0 := HD1.out.c0
  have k1 := HD1.out.c1
  have k2 := HD1.out.c2
  go_wp2_with fail
  refine (few_yes A1 A2 c1 c2 sg mt L w1 HF.out).mono ?_
  rintro e w2 ⟨rfl, hb⟩
  have HD2 := Lib.hid (HD1.out.below hb)
  have HB2 := Lib.hid (HB1.out.trans (hb.mono HB1.out.size))
  clear hb k0 k1 k2 HD1 HB1
  have k0 := HD2.out.c0
  have k1 := HD2.out.c1
  have k2 := HD2.out.c2
  go_wp2_with fail
  refine (dvalid_is (· < w2.heap.size) false HD2.out.rs HD2.out.rm (fun _ h => h) HL1.out HL2.out HR.out).mono ?_
  rintro e w3 ⟨rfl, hb⟩
  have HD3 := Lib.hid (HD2.out.below hb)
  have HB3 := Lib.hid (HB2.out.trans (hb.mono HB2.out.size))
  clear hb k0 k1 k2 HD2 HB2
  have k0 := HD3.out.c0
  have k1 := HD3.out.c1
  have k2 := HD3.out.c2
  go_wp2_with fail
  refine (awake22 _).mono ?_
  rintro e w4 ⟨rfl, hb⟩
  have HD4 := Lib.hid (HD3.out.below hb)
  have HB4 := Lib.hid (HB3.out.trans (hb.mono HB3.out.size))
  clear hb k0 k1 k2 HD3 HB3
  have k0 := HD4.out.c0
  have k1 := HD4.out.c1
  have k2 := HD4.out.c2
  go_wp2_with fail
  go_ret
  exact ⟨rfl, HB4.out⟩

set_option maxHeartbeats 8000000 in
theorem wml_zero (kk : Int) (hf : fewB sg mt L) (hi : IsD sg mt L) (hz : sg.length = 0) :
    Calls Try.prog 10 #[.agg #[.slice A1 sg.length c1, .slice A2 mt.length c2, .int .i64 L], .int .u8 kk] w fun e w' => e = .returned (.bool true) ∧ Below w.heap.size w w' := by
  have HD := Lib.hid (DBox.start (c1 := c1) (c2 := c2) (L := L) (· < w.heap.size) hd.rs hd.rm (fun _ h => h))
  have HL1 := Lib.hid hd.ls
  have HL2 := Lib.hid hd.lm
  have HF := Lib.hid hf
  have HI := Lib.hid hi
  have hz' : ((sg.length : Int) == 0) = true := by rw [beq_iff_eq]; omega
  clear hd hf hi hz
  go_enter Try.func10, Try.ntmps10
  go_wp2_with fail
  refine (awake22 _).mono ?_
  rintro e w1 ⟨rfl, hb⟩
  have HD1 := Lib.hid (HD.out.below hb)
  have HB1 := Lib.hid (below_box (o := (.cells #[.slice A1 sg.length c1, .slice A2 mt.length c2, .int .i64 L] 24)) (by simpa using hb))
  clear hb
  have k0 := HD1.out.c0
  have k1 := HD1.out.c1
  have k2 := HD1.out.c2
  go_wp2_with fail
  refine (few_yes A1 A2 c1 c2 sg mt L w1 HF.out).mono ?_
  rintro e w2 ⟨rfl, hb⟩
  have HD2 := Lib.hid (HD1.out.below hb)
  have HB2 := Lib.hid (HB1.out.trans (hb.mono HB1.out.size))
  clear hb k0 k1 k2 HD1 HB1
  have k0 := HD2.out.c0
  have k1 := HD2.out.c1
  have k2 := HD2.out.c2
  go_wp2_with fail
  refine (dvalid_is (· < w2.heap.size) true HD2.out.rs HD2.out.rm (fun _ h => h) HL1.out HL2.out (decide_eq_true HI.out)).mono ?_
  rintro e w3 ⟨rfl, hb⟩
  have HD3 := Lib.hid (HD2.out.below hb)
  have HB3 := Lib.hid (HB2.out.trans (hb.mono HB2.out.size))
  clear hb k0 k1 k2 HD2 HB2
  have k0 := HD3.out.c0
  have k1 := HD3.out.c1
  have k2 := HD3.out.c2
  go_wp2_with fail
  refine (awake22 _).mono ?_
  rintro e w4 ⟨rfl, hb⟩
  have HD4 := Lib.hid (HD3.out.below hb)
  have HB4 := Lib.hid (HB3.out.trans (hb.mono HB3.out.size))
  clear hb k0 k1 k2 HD3 HB3
  have k0 := HD4.out.c0
  have k1 := HD4.out.c1
  have k2 := HD4.out.c2
  go_wp2_with fail
  go_ret
  exact ⟨rfl, HB4.out⟩

set_option maxRecDepth 100000 in
set_option maxHeartbeats 8000000 in
theorem wml_ok (kk : Int) (hf : fewB sg mt L) (hi : IsD sg mt L) (hsz : sg.length ≠ 0) (hk : 0 ≤ kk ∧ kk ≤ 255) :
    Calls Try.prog 10 #[.agg #[.slice A1 sg.length c1, .slice A2 mt.length c2, .int .i64 L], .int .u8 kk] w fun e w' => e = .returned (.bool true) ∧ Below w.heap.size w w' := by
  have HD := Lib.hid (DBox.start (c1 := c1) (c2 := c2) (L := L) (· < w.heap.size) hd.rs hd.rm (fun _ h => h))
  have HL1 := Lib.hid hd.ls
  have HL2 := Lib.hid hd.lm
  have HF := Lib.hid hf
  have HI := Lib.hid hi
  have hcn : arC sg mt ≤ 256 := by
    have h1 := cnt_le (headB (arR sg mt)) mt.length
    have h2 := hi.1
    have h3 := hi.2.1
    unfold arC; omega
  obtain ⟨m, hm⟩ : ∃ m, arC sg mt = m := ⟨_, rfl⟩
  rw [hm] at hcn
  have HM := Lib.hid hm
  obtain ⟨l, rfl⟩ : ∃ l : Nat, L = (l : Int) := ⟨L.toNat, by have := hi.2.2.1; omega⟩
  have hL2 : l ≤ 64 := by have := hi.2.2.2.1; omega
  have hcl : (cmpL sg mt l).length = m + l := by rw [cmp_len, hm]
  have HCL := Lib.hid hcl
  have hml : m + l ≤ maxLen := by unfold maxLen; omega
  have HML := Lib.hid hml
  have hsl : sg.length ≤ maxLen := hd.ls
  have HSL := Lib.hid hsl
  have hnl : (strandsL sg mt).length ≤ 256 := by
    have h1 := strandsL_most sg mt
    have h2 := hi.1
    have h3 := hi.2.1
    omega
  have hsz' : ((sg.length : Int) == 0) = false := by rw [beq_eq_false_iff_ne]; omega
  have hm0 : 0 < m := by
    have := arN_lt (sg := sg) hi.2.2.2.2.2.1 hi.2.1 (show 0 < mt.length by have := hi.2.1; omega)
    omega
  have hns0 : 0 < (strandsL sg mt).length := by
    obtain ⟨j, hj, -⟩ := on_strand hi (show 0 < mt.length by have := hi.2.1; omega)
    omega
  have hsgl := hi.1
  clear hd hf hi hm hcl hml hsl hsz
  go_enter Try.func10, Try.ntmps10
  go_wp2_with fail
  refine (awake22 _).mono ?_
  rintro e w1 ⟨rfl, hb⟩
  have HD1 := Lib.hid (HD.out.below hb)
  have HB1 := Lib.hid (below_box (o := (.cells #[.slice A1 sg.length c1, .slice A2 mt.length c2, .int .i64 (l : Int)] 24)) (by simpa using hb))
  clear hb
  have k0 := HD1.out.c0
  have k1 := HD1.out.c1
  have k2 := HD1.out.c2
  go_wp2_with fail
  refine (few_yes A1 A2 c1 c2 sg mt (l : Int) w1 HF.out).mono ?_
  rintro e w2 ⟨rfl, hb⟩
  have HD2 := Lib.hid (HD1.out.below hb)
  have HB2 := Lib.hid (HB1.out.trans (hb.mono HB1.out.size))
  clear hb k0 k1 k2 HD1 HB1
  have k0 := HD2.out.c0
  have k1 := HD2.out.c1
  have k2 := HD2.out.c2
  go_wp2_with fail
  refine (dvalid_is (· < w2.heap.size) true HD2.out.rs HD2.out.rm (fun _ h => h) HL1.out HL2.out (decide_eq_true HI.out)).mono ?_
  rintro e w3 ⟨rfl, hb⟩
  have HD3 := Lib.hid (HD2.out.below hb)
  have HB3 := Lib.hid (HB2.out.trans (hb.mono HB2.out.size))
  clear hb k0 k1 k2 HD2 HB2
  have k0 := HD3.out.c0
  have k1 := HD3.out.c1
  have k2 := HD3.out.c2
  go_wp2_with fail
  refine (of_ok A1 A2 c1 c2 sg mt (l : Int) w3 (· < w3.heap.size) HD3.out.rs HD3.out.rm (fun _ h => h) HI.out).mono ?_
  rintro e w4 ⟨v2, v3, rfl, ho, hr, hb⟩
  rw [show ((l : Int)).toNat = l from rfl] at ho
  rw [HM.out]
  have HD4 := Lib.hid (HD3.out.below hb)
  have HB4 := Lib.hid (HB3.out.trans (hb.mono HB3.out.size))
  obtain ⟨Ac, cc, hv2, -, -, hrc⟩ := ho.reads
  obtain ⟨Aw, cw, hv3, hrw⟩ := hr.reads
  rw [HCL.out] at hv2
  rw [wrdL_len] at hv3
  subst hv2 hv3
  have HRC := Lib.hid (hrc.imp (T := (· < w4.heap.size)) fun b hb => hb.2)
  have HRW := Lib.hid (hrw.imp (T := (· < w4.heap.size)) fun b hb => hb.2)
  clear hb ho hr hrc hrw k0 k1 k2 HD3 HB3
  have HX4 := Lib.hid ((Below.refl w4.heap.size w4).alloc (Nat.le_refl _) (.cells #[.int .i64 ((m : Int) + (l : Int)), .slice Ac (m + l) cc, .slice Aw sg.length cw] 35))
  have HS4 : Hid (OSt (w4.alloc (.cells #[.int .i64 ((m : Int) + (l : Int)), .slice Ac (m + l) cc, .slice Aw sg.length cw] 35)) w.heap.size w4.heap.size A1 A2 Ac Aw c1 c2 cc cw sg mt l m) :=
    ⟨HD4.out.below HX4.out, heap_alloc_new _ _, (HRC.out.below HX4.out).imp fun b hb => by have := HX4.out.size; omega, (HRW.out.below HX4.out).imp fun b hb => by have := HX4.out.size; omega⟩
  have HB4' := Lib.hid (HB4.out.trans (HX4.out.mono HB4.out.size))
  have k0 := HD4.out.c0
  have k1 := HD4.out.c1
  have k2 := HD4.out.c2
  have kk := (HS4.out.pack).2
  clear HX4 HRC HRW
  go_wp2_with fail
  obtain ⟨gb, hgb⟩ : ∃ g, w4.heap.size = g := ⟨_, rfl⟩
  rw [hgb] at HS4 ⊢
  generalize (w4.alloc (.cells #[.int .i64 ((m : Int) + (l : Int)), .slice Ac (m + l) cc, .slice Aw sg.length cw] 35)) = w4a at HS4 HB4' kk ⊢
  clear k0 k1 k2 kk hgb HB4 HD4
  obtain ⟨-, k0, k1, k2, g0, g1, g2⟩ := HS4.out.pack
  refine (wArcs_ok A1 A2 c1 c2 sg mt (l : Int) w4a (· < w4a.heap.size) HS4.out.db.rs HS4.out.db.rm (fun _ h => h) HI.out).mono ?_
  rintro e w5 ⟨va, rfl, hoa, hb⟩
  have HS5 := Lib.hid (HS4.out.below hb)
  have HB5 := Lib.hid (HB4'.out.trans (hb.mono HB4'.out.size))
  obtain ⟨Aa, ca, hva, -, -, hra⟩ := hoa.reads
  rw [arL_len] at hva
  subst hva
  have HRA := Lib.hid (hra.imp (T := (· < w5.heap.size)) fun b h => h.2)
  rw [HM.out]
  clear hoa hra
  clear hb HS4 HB4'
  obtain ⟨-, k0, k1, k2, g0, g1, g2⟩ := HS5.out.pack
  have e1 : ((mt.length : Int) != (mt.length : Int)) = false := by rw [bne_eq_false_iff_eq]
  have e2 : ¬ (m : Int) + (l : Int) < 1 := by omega
  by_cases hbig : (5 : Int) < (m : Int) + (l : Int)
  · go_wp2_with fail
    go_ret
    exact ⟨rfl, HB5.out⟩
  go_wp2_with fail
  refine (strands_ok A1 A2 c1 c2 sg mt (l : Int) w5 (· < w5.heap.size) HS5.out.db.rs HS5.out.db.rm (fun _ h => h) HI.out).mono ?_
  rintro e w6 ⟨v, rfl, hr, hb⟩
  have HS6 := Lib.hid (HS5.out.below hb)
  have HB6 := Lib.hid (HB5.out.trans (hb.mono HB5.out.size))
  have HRA6 := Lib.hid ((HRA.out.below hb).imp (T := (· < w6.heap.size)) fun b h => Nat.lt_of_lt_of_le h hb.size)
  obtain ⟨As, cs, rfl, hrl⟩ := hr.reads
  have HRL := Lib.hid (hrl.imp (T := (· < w6.heap.size)) fun b h => h.2)
  clear hb hr hrl HS5 HB5 HRA k0 k1 k2 g0 g1 g2
  obtain ⟨-, k0, k1, k2, g0, g1, g2⟩ := HS6.out.pack
  rw [rows_cycs_length]
  obtain ⟨ns, hns⟩ : ∃ n, (strandsL sg mt).length = n := ⟨_, rfl⟩
  have HNS := Lib.hid hns
  rw [hns] at hnl hns0 ⊢
  clear hns
  obtain ⟨i, hki⟩ : ∃ i : Nat, kk.tmod (ns : Int) = (i : Int) := by
    refine ⟨(kk.tmod (ns : Int)).toNat, ?_⟩
    have := Int.tmod_nonneg (ns : Int) hk.1
    omega
  have hip : i < ns := by
    have := Int.tmod_lt_of_pos kk (show (0 : Int) < (ns : Int) by omega)
    omega
  have hki2 : kk % (ns : Int) = (i : Int) := by rw [← Int.tmod_eq_emod_of_nonneg hk.1]; exact hki
  have hkw : IntKind.i64.wrap kk = kk := IntWalk.i64_in _ (by omega)
  have hpz : ¬ (ns : Int) = 0 := by omega
  have HIP : Hid (i < (strandsL sg mt).length) := by rw [HNS.out]; exact hip
  go_wp2_with fail
  clear hki hki2 hkw hpz hk
  refine (long_ok A1 A2 c1 c2 sg mt (l : Int) w6 (· < w6.heap.size) HS6.out.db.rs HS6.out.db.rm (fun _ h => h) i HI.out HIP.out).mono ?_
  rintro e w7 ⟨vl, rfl, hol, hb⟩
  have HS7 := Lib.hid (HS6.out.below hb)
  have HB7 := Lib.hid (HB6.out.trans (hb.mono HB6.out.size))
  have HRA7 := Lib.hid ((HRA6.out.below hb).imp (T := (· < w7.heap.size)) fun b h => Nat.lt_of_lt_of_le h hb.size)
  have hrl7 := (HRL.out.below hb)
  obtain ⟨Al, cl, rfl, -, -, hlr⟩ := hol.reads
  have HLR := Lib.hid (hlr.imp (T := (· < w7.heap.size)) fun b h => h.2)
  obtain ⟨b, off, rfl, -, hc⟩ := hrl7.at_ (k := i) (by rw [rows_cycs_length]; exact HIP.out)
  obtain ⟨Ak, ck, k3, r3, -⟩ := hc i (by rw [rows_cycs_length]; exact HIP.out)
  rw [rows_getD HIP.out, stN_eq HIP.out] at k3 r3
  obtain ⟨p, hp⟩ : ∃ p, (stN sg mt i).length = p := ⟨_, rfl⟩
  rw [ints_length, hp] at k3
  have hp0 : 0 < (stN sg mt i).length := st_pos HI.out HIP.out
  obtain ⟨b2, off2, rfl, -, hc2⟩ := r3.at_ (k := 0) (by rw [ints_length]; exact hp0)
  have c1' := hc2 0 (by rw [ints_length]; exact hp0)
  rw [gi_ints hp0, Nat.add_zero] at c1'
  have hxl := (st_lt HI.out HIP.out hp0).1
  have hF : lnF sg mt i = (arN sg mt (gN (stN sg mt i) 0) : Int) + 1 := rfl
  obtain ⟨x, hx⟩ : ∃ x, gN (stN sg mt i) 0 = x := ⟨_, rfl⟩
  rw [hx] at c1' hxl hF
  obtain ⟨b3, off3, rfl, -, hc3⟩ := HRA7.out.at_ (k := x) (by rw [arL_len]; exact hxl)
  have c2' := hc3 x (by rw [arL_len]; exact hxl)
  rw [gi_arL hxl] at c2'
  have hal := arN_lt (sg := sg) HI.out.2.2.2.2.2.1 HI.out.2.1 hxl
  rw [HM.out] at hal
  obtain ⟨o, ho⟩ : ∃ o, arN sg mt x = o := ⟨_, rfl⟩
  rw [ho] at c2' hal hF
  rw [hp] at hp0
  obtain ⟨f, hf⟩ : ∃ f, lnF sg mt i = f := ⟨_, rfl⟩
  rw [hf] at hF
  have HFF := Lib.hid hf
  have w0 : IntKind.i64.wrap ((o : Int) + 1) = f := by rw [hF]; exact IntWalk.i64_in _ (by omega)
  have i1 : (0 : Int) ≤ (x : Int) ∧ (x : Int) < (mt.length : Int) := by omega
  have i2 : (0 : Int) < (p : Int) := by omega
  have i3 : (0 : Int) ≤ (i : Int) ∧ (i : Int) < (ns : Int) := by omega
  have HFB : Hid (-1000 ≤ f ∧ f ≤ 1000) := by rw [hF]; exact (⟨by omega, by omega⟩ : -1000 ≤ (o : Int) + 1 ∧ (o : Int) + 1 ≤ 1000)
  clear hb hol hrl7 hlr hc r3 hc2 hc3 hx ho hf hp HS6 HB6 HRA6 HRL k0 k1 k2 g0 g1 g2 hF hal
  obtain ⟨-, k0, k1, k2, g0, g1, g2⟩ := HS7.out.pack
  obtain ⟨q, hq⟩ : ∃ q, (lonL sg mt i).length = q := ⟨_, rfl⟩
  have HQ := Lib.hid hq
  rw [hq]
  clear hq
  go_wp2_with fail
  have hbA := (Below.refl _ w7).alloc (Nat.le_refl _) (.cells #[.int .i64 f] 3)
  have hwz : (w7.alloc (.cells #[.int .i64 f] 3)).heap.size = w7.heap.size + 1 := by simp
  have HRF := Lib.hid (lit_RI w7 [f] (· < (w7.alloc (.cells #[.int .i64 f] 3)).heap.size) (by rw [hwz]; exact Nat.lt_succ_self _) #[.int .i64 f] rfl)
  have HRL8 := Lib.hid ((HLR.out.below hbA).imp (T := (· < (w7.alloc (.cells #[.int .i64 f] 3)).heap.size)) fun b h => Nat.lt_of_lt_of_le h hbA.size)
  have HLSH := Lib.hid (lon_short HI.out HIP.out)
  have HLBD := Lib.hid (lon_bd HI.out HIP.out)
  have hrl8 := rl_two (c := 1) (d := cl) HRF.out HRL8.out (by unfold maxLen; simp) (Nat.le_trans HLSH.out (by decide))
  rw [HQ.out, hwz] at hrl8
  have HRL9 := Lib.hid hrl8
  have hb8 := hbA.alloc hbA.size (.cells #[.slice (some ⟨w7.heap.size, 0, none⟩) 1 1, .slice Al q cl] 42)
  have HS8 := Lib.hid (HS7.out.below hb8)
  have HB8 := Lib.hid (HB7.out.trans (hb8.mono HB7.out.size))
  have HF8 := Lib.hid (HRF.out.keep (w' := ((w7.alloc (.cells #[.int .i64 f] 3)).alloc (.cells #[.slice (some ⟨w7.heap.size, 0, none⟩) 1 1, .slice Al q cl] 42))) fun b h => Below.heap_alloc _ _ b h)
  have HL8 := Lib.hid (HRL8.out.keep (w' := ((w7.alloc (.cells #[.int .i64 f] 3)).alloc (.cells #[.slice (some ⟨w7.heap.size, 0, none⟩) 1 1, .slice Al q cl] 42))) fun b h => Below.heap_alloc _ _ b h)
  have h8z : ((w7.alloc (.cells #[.int .i64 f] 3)).alloc (.cells #[.slice (some ⟨w7.heap.size, 0, none⟩) 1 1, .slice Al q cl] 42)).heap.size = w7.heap.size + 2 := by simp
  have HBF : Hid (Bd [f]) := fun k hk => by
    rcases (show k = 0 by simp at hk; omega) with rfl
    have := HFB.out
    show -1099511627776 ≤ f ∧ f ≤ 1099511627776
    omega
  clear hbA hrl8 hb8 k0 k1 k2 g0 g1 g2 HRL8 HRF HS7 HB7 c1' c2' k3 w0 i1 i2 i3
  refine (mul_is (some ⟨w7.heap.size + 1, 0, none⟩) 2 2 [[f], lonL sg mt i] ((w7.alloc (.cells #[.int .i64 f] 3)).alloc (.cells #[.slice (some ⟨w7.heap.size, 0, none⟩) 1 1, .slice Al q cl] 42)) (· < w7.heap.size + 1 + 1) HRL9.out (fun b h => by rw [h8z]; omega) rfl (by decide) (fun k hk => by
    rcases (show k = 0 ∨ k = 1 by omega) with rfl | rfl
    · exact ⟨HBF.out, by simp⟩
    · exact ⟨HLBD.out, HLSH.out⟩)).mono ?_
  rintro e w9 ⟨v1, rfl, ho1, hb⟩
  have HS9 := Lib.hid (HS8.out.below hb)
  have HB9 := Lib.hid (HB8.out.trans (hb.mono HB8.out.size))
  have HF9 := Lib.hid ((HF8.out.keep (w' := w9) fun b h => hb.block b (by rw [hwz] at h; rw [h8z]; omega)).imp (T := (· < w9.heap.size)) fun b h => by have := hb.size; rw [hwz] at h; rw [h8z] at this; omega)
  have HL9 := Lib.hid ((HL8.out.keep (w' := w9) fun b h => hb.block b (by rw [hwz] at h; rw [h8z]; omega)).imp (T := (· < w9.heap.size)) fun b h => by have := hb.size; rw [hwz] at h; rw [h8z] at this; omega)
  obtain ⟨Au, cu, rfl, -, -, hru⟩ := ho1.reads
  have HU9 := Lib.hid (hru.imp (T := (· < w9.heap.size)) fun b h => h.2)
  obtain ⟨a7, ha7⟩ : ∃ a, w7.heap.size = a := ⟨_, rfl⟩
  rw [ha7] at HF9 ⊢
  clear hb ho1 hru ha7 HS8 HB8 HF8 HL8 HRL9 k0 k1 k2 g0 g1 g2
  obtain ⟨-, k0, k1, k2, g0, g1, g2⟩ := HS9.out.pack
  obtain ⟨U, hU⟩ : ∃ U, mulW [[f], lonL sg mt i] = U := ⟨_, rfl⟩
  rw [hU] at HU9 ⊢
  have HUU := Lib.hid hU
  clear hU
  go_wp2_with fail
  have hrl9 := rl_two (c := cl) (d := 1) HL9.out HF9.out (Nat.le_trans HLSH.out (by decide)) (by unfold maxLen; simp)
  rw [HQ.out] at hrl9
  have HRL10 := Lib.hid hrl9
  have hb10 := (Below.refl _ w9).alloc (Nat.le_refl _) (.cells #[.slice Al q cl, .slice (some ⟨a7, 0, none⟩) 1 1] 42)
  have HS10 := Lib.hid (HS9.out.below hb10)
  have HB10 := Lib.hid (HB9.out.trans (hb10.mono HB9.out.size))
  have HU10 := Lib.hid ((HU9.out.below hb10).imp (T := (· < (w9.alloc (.cells #[.slice Al q cl, .slice (some ⟨a7, 0, none⟩) 1 1] 42)).heap.size)) fun b h => Nat.lt_of_lt_of_le h hb10.size)
  have h10z : (w9.alloc (.cells #[.slice Al q cl, .slice (some ⟨a7, 0, none⟩) 1 1] 42)).heap.size = w9.heap.size + 1 := by simp
  clear hrl9 hb10 HS9 HB9 HU9 HF9 HL9 k0 k1 k2 g0 g1 g2
  refine (mul_is (some ⟨w9.heap.size, 0, none⟩) 2 2 [lonL sg mt i, [f]] (w9.alloc (.cells #[.slice Al q cl, .slice (some ⟨a7, 0, none⟩) 1 1] 42)) (· < w9.heap.size + 1) HRL10.out (fun b h => by rw [h10z]; exact h) rfl (by decide) (fun k hk => by
    rcases (show k = 0 ∨ k = 1 by omega) with rfl | rfl
    · exact ⟨HLBD.out, HLSH.out⟩
    · exact ⟨HBF.out, by simp⟩)).mono ?_
  rintro e w11 ⟨v2, rfl, ho2, hb⟩
  have HS11 := Lib.hid (HS10.out.below hb)
  have HB11 := Lib.hid (HB10.out.trans (hb.mono HB10.out.size))
  have HU11 := Lib.hid ((HU10.out.below hb).imp (T := (· < w11.heap.size)) fun b h => Nat.lt_of_lt_of_le h hb.size)
  obtain ⟨Av, cv, rfl, -, -, hrv⟩ := ho2.reads
  have HV11 := Lib.hid (hrv.imp (T := (· < w11.heap.size)) fun b h => h.2)
  obtain ⟨V, hV⟩ : ∃ V, mulW [lonL sg mt i, [f]] = V := ⟨_, rfl⟩
  rw [hV] at HV11 ⊢
  have HVV := Lib.hid hV
  have hbX := (Below.refl _ w11).alloc (Nat.le_refl _) (.cells #[.slice Au U.length cu] 42)
  have hbY := hbX.alloc hbX.size (.cells #[.slice Av V.length cv] 42)
  have HS12 := Lib.hid (HS11.out.below hbY)
  have HB12 := Lib.hid (HB11.out.trans (hbY.mono HB11.out.size))
  have HCM : Hid (∀ Al ls, RT ((w11.alloc (.cells #[.slice Au U.length cu] 42)).alloc (.cells #[.slice Av V.length cv] 42)) (· < ((w11.alloc (.cells #[.slice Au U.length cu] 42)).alloc (.cells #[.slice Av V.length cv] 42)).heap.size) Al ls →
      CmS ((w11.alloc (.cells #[.slice Au U.length cu] 42)).alloc (.cells #[.slice Av V.length cv] 42)) w11.heap.size (w11.heap.size + 1) Au Av Al cu cv (redF (redF [] [lnF sg mt i]) (lonL sg mt i)) (redF (redF [] (lonL sg mt i)) [lnF sg mt i]) ls) := by
    intro Al ls hrt
    have eU : redF (redF [] [lnF sg mt i]) (lonL sg mt i) = U := by rw [← HUU.out, HFF.out]; rfl
    have eV : redF (redF [] (lonL sg mt i)) [lnF sg mt i] = V := by rw [← HVV.out, HFF.out]; rfl
    rw [eU, eV]
    refine ⟨?_, ?_, (HU11.out.below hbY).imp fun b h => Nat.lt_of_lt_of_le h hbY.size, (HV11.out.below hbY).imp fun b h => Nat.lt_of_lt_of_le h hbY.size, hrt⟩
    · exact (World.cell?_of_block (a := ⟨w11.heap.size, 0, none⟩) (Below.heap_alloc _ _ _ (by simp))).trans (box1_cell w11 _ _)
    · have h1 := box1_cell (w11.alloc (.cells #[.slice Au U.length cu] 42)) (.slice Av V.length cv) 42
      have e : (w11.alloc (.cells #[.slice Au U.length cu] 42)).heap.size = w11.heap.size + 1 := by simp
      rw [e] at h1; exact h1
  clear hb ho2 hrv hV hbX hbY HS10 HB10 HU10 HU11 HV11 HS11 HB11 HRL10
  obtain ⟨-, k0, k1, k2, g0, g1, g2⟩ := HS12.out.pack
  have HG5 : Hid (m + l ≤ 5) := (by omega : m + l ≤ 5)
  have hsix := six_homs HI.out (lp := l) (by rw [HM.out]; omega)
  rw [HM.out] at hsix
  obtain ⟨N, hN⟩ : ∃ N, homN (wrdL sg mt sg.length) (m + l) (6 ^ (m + l)) = N := ⟨_, rfl⟩
  rw [hN] at hsix
  have hN6 : (6 : Int) ≤ (N : Int) := by omega
  have HNN := Lib.hid hN
  clear hN hsix
  go_wp2_with fail
  have hh := homs_any 40 #[.pointer (some ⟨w11.heap.size, 0, none⟩), .pointer (some ⟨w11.heap.size + 1, 0, none⟩)] enC1 (m + l) Ac (m + l) cc Aw sg.length cw (wrdL sg mt sg.length) _ (· < ((w11.alloc (.cells #[.slice Au U.length cu] 42)).alloc (.cells #[.slice Av V.length cv] 42)).heap.size) HS12.out.wd (fun _ h => h) (wrdL_len _ _ _) (by omega) HG5.out (fun k hk => by
    rw [wrdL_len] at hk
    have e : (wrdL sg mt sg.length).getD k [] = redL (relL sg mt k) := by simp [wrdL, hk]
    have hw := (group_valid HI.out hL2).2.2.2.2 k (by rw [wrdL_len]; exact hk)
    rw [HM.out] at hw
    refine ⟨LV_WL (by rw [Int.natCast_add]; exact hw), ?_⟩
    rw [e]
    have h1 := redF_len [] (relL sg mt k)
    have h2 : (relL sg mt k).length = 4 := by unfold relL; dsimp only; split <;> rfl
    unfold redL
    simp only [List.length_nil] at h1
    omega) (each_com HI.out HIP.out (by rw [HM.out]) HG5.out HCM.out rfl)
  rw [HNN.out, Int.natCast_add] at hh
  refine hh.mono ?_
  rintro e w13 ⟨rfl, hb⟩
  have HB13 := Lib.hid (HB12.out.trans (hb.mono HB12.out.size))
  clear hb hh k0 k1 k2 g0 g1 g2
  go_wp2_with fail
  go_ret
  exact ⟨rfl, HB13.out⟩
end
theorem wirtingerCommutes_walk (A1 A2 : Option Addr) (c1 c2 : Nat) (sg mt : List Int) (L : Int) (kk : Int) (w : World) (hd : DArg w A1 A2 sg mt L) (wf : (Lit.int .u8 kk).wf = true) :
    Calls Try.prog 10 #[.agg #[.slice A1 sg.length c1, .slice A2 mt.length c2, .int .i64 L], .int .u8 kk] w fun e w' => e = .returned (.bool true) ∧ Below w.heap.size w w' := by
  have hk : 0 ≤ kk ∧ kk ≤ 255 := by
    simp [Lit.wf, IntKind.min, IntKind.max, IntKind.signed, IntKind.bits] at wf
    omega
  clear wf
  by_cases hf : fewB sg mt L
  · by_cases hi : IsD sg mt L
    · by_cases hz : sg.length = 0
      · exact wml_zero A1 A2 c1 c2 sg mt L w hd kk hf hi hz
      · exact wml_ok A1 A2 c1 c2 sg mt L w hd kk hf hi hz hk
    · exact wml_no A1 A2 c1 c2 sg mt L w hd kk hf hi
  · exact wml_great A1 A2 c1 c2 sg mt L w hd kk hf
end Go.Proofs.Ytcjgfncbecbhjaa

