/-
  The contract of wirtinger.Longitude.
-/
import Derived.Test.YtcjgfncbecbhjaaLongM
namespace Go.Proofs.Ytcjgfncbecbhjaa
open Go.RowKit Go.Maps

theorem make_mapB (w : World) : (Instr.makeMap 78 none).run Try.prog w = .ok (.map (some w.heap.size)) (w.alloc (.map #[] 0)) := by
  simp [Instr.makeMap]
theorem zero_bool (w : World) : (zeroValue 4).run Try.prog w = .ok (.bool false) w := by kernel_rfl
theorem look_bool {D : DataW Unit} {b n : Nat} {w : World} (hown : w.ownsMap Try.prog 3 (plainElem Try.prog 4) b n D) {x : Int} (hkey : keyOf Try.prog 3 (.int .i64 x) = some (.int .i64 x)) {r : Bool}
    (hat : D.atKey (.int .i64 x) (.lit (.bool false)) = .lit (.bool r)) : (Instr.lookup 78 (.map (some b)) (.int .i64 x) false).run Try.prog w = .ok (.bool r) w := by
  have he : Try.prog.underlying 4 = some .bool := Try.underlying4
  obtain ⟨v, ps, hrun, hv⟩ := hown.lookup keyed_int Try.underlying78 (zero_bool w) (plainElem_bool he false) hkey
  rw [hat] at hv
  have : v = .bool r := by
    unfold plainElem at hv
    rw [he] at hv
    cases v <;> simp at hv
    rw [hv.1]
  rw [← this]; exact hrun
/-- the map of the strand's own arcs -/
structure OwD (D : DataW Unit) (P : Nat → Bool) : Prop where
  tidy : Tidy D
  at_ : ∀ a : Nat, D.atKey (.int .i64 (a : Int)) (.lit (.bool false)) = .lit (.bool (P a))
theorem OwD.start : OwD (.map []) (fun _ => false) := ⟨tidy_empty, fun _ => rfl⟩
theorem OwD.put {D : DataW Unit} {P : Nat → Bool} (h : OwD D P) (x : Nat) : OwD (D.put (.int .i64 (x : Int)) (.lit (.bool true))) (fun a => P a || decide (x = a)) := by
  have hik : WideAt.IsKeyLit (.int .i64 (x : Int)) := trivial
  refine ⟨h.tidy.put hik _, fun a => ?_⟩
  by_cases e : x = a
  · subst e
    rw [atKey_put_same h.tidy.isMap hik]; simp
  · have hne : (.int .i64 (a : Int) : Lit) ≠ .int .i64 (x : Int) := fun e' => e (by injection e' with _ e2; omega)
    rw [atKey_put_other hne, h.at_ a]; simp [e]
theorem key_int {a : Nat} (h : a ≤ 1099511627776) : keyOf Try.prog 3 (.int .i64 (a : Int)) = some (.int .i64 (a : Int)) := keyOf_int_mk Try.underlying3 (wf64 (by omega) (by omega))
structure OwS (w4 w : World) (bm k : Nat) (D : DataW Unit) (P : Nat → Bool) : Prop where
  bel : Below bm w4 w
  map : w.ownsMap Try.prog 3 (plainElem Try.prog 4) bm k D
  ow : OwD D P
  lt : bm < w.heap.size
theorem OwS.put {w4 w w1 : World} {bm k : Nat} {D : DataW Unit} {P : Nat → Bool} (h : OwS w4 w bm k D P) {x : Nat} (hm : w1.ownsMap Try.prog 3 (plainElem Try.prog 4) bm (k + 1) (D.put (.int .i64 (x : Int)) (.lit (.bool true)))) (hg : w.grownBy w1 (some bm)) :
    OwS w4 w1 bm (k + 1) (D.put (.int .i64 (x : Int)) (.lit (.bool true))) (fun a => P a || decide (x = a)) :=
  ⟨h.bel.grown hg (Nat.le_of_lt h.lt) (fun j hj => by cases hj; omega), hm, h.ow.put x, by have := hg.size; have := h.lt; omega⟩

section
variable (A1 A2 : Option Addr) (c1 c2 : Nat) (sg mt : List Int) (L : Int) (w : World) (S : Nat → Prop) (hx : RI w S A1 sg) (hy : RI w S A2 mt) (hS : ∀ b, S b → b < w.heap.size)
include hx hy hS
set_option maxHeartbeats 1000000 in
theorem long_no (ci : Int) (hm1 : sg.length ≤ maxLen) (hm2 : mt.length ≤ maxLen) (hno : ¬ IsD sg mt L) :
    Calls Try.prog 30 #[.agg #[.slice A1 sg.length c1, .slice A2 mt.length c2, .int .i64 L], .int .i64 ci] w fun e w' => e = .returned (.tuple #[.slice none 0 0, .int .i64 1]) ∧ Below w.heap.size w w' := by
  have HD := Lib.hid (DBox.start (c1 := c1) (c2 := c2) (L := L) S hx hy hS)
  have H := Lib.hid (decide_eq_false hno)
  clear hx hy hS hno
  go_enter Try.func30, Try.ntmps30
  go_wp2_with fail
  refine (dvalid_is _ false HD.out.rs HD.out.rm (fun _ h => h) hm1 hm2 H.out).mono ?_
  rintro e w1 ⟨rfl, hb1⟩
  go_wp2_with fail
  go_ret2
  exact ⟨rfl, below_box (by simpa using hb1)⟩
set_option maxHeartbeats 2000000 in
theorem long_out (ci : Int) (hd : IsD sg mt L) (r : Int) (hci : (ci < 0 ∧ r = 2) ∨ (0 ≤ ci ∧ ((strandsL sg mt).length : Int) + L ≤ ci ∧ r = 2) ∨ (((strandsL sg mt).length : Int) ≤ ci ∧ ci < ((strandsL sg mt).length : Int) + L ∧ r = 0)) :
    Calls Try.prog 30 #[.agg #[.slice A1 sg.length c1, .slice A2 mt.length c2, .int .i64 L], .int .i64 ci] w fun e w' => e = .returned (.tuple #[.slice none 0 0, .int .i64 r]) ∧ Below w.heap.size w w' := by
  have HD := Lib.hid (DBox.start (c1 := c1) (c2 := c2) (L := L) S hx hy hS)
  have H := Lib.hid hd
  have hm1 : sg.length ≤ maxLen := by have := hd.1; unfold maxLen; omega
  have hm2 : mt.length ≤ maxLen := by have := hd.1; have := hd.2.1; unfold maxLen; omega
  have hL1 := hd.2.2.1
  have hL2 := hd.2.2.2.1
  have hnl : (strandsL sg mt).length ≤ 256 := by
    have h1 := strandsL_most sg mt
    have h2 := hd.1
    have h3 := hd.2.1
    omega
  clear hx hy hS hd
  go_enter Try.func30, Try.ntmps30
  go_wp2_with fail
  refine (dvalid_is _ true HD.out.rs HD.out.rm (fun _ h => h) hm1 hm2 (decide_eq_true H.out)).mono ?_
  rintro e w1 ⟨rfl, hb1⟩
  have HD1 := Lib.hid (HD.out.below hb1)
  have k0 := HD1.out.c0
  have k1 := HD1.out.c1
  have k2 := HD1.out.c2
  have HB1 := Lib.hid (below_box (o := (.cells #[.slice A1 sg.length c1, .slice A2 mt.length c2, .int .i64 L] 24)) (by simpa using hb1))
  clear hb1 HD hm1 hm2
  go_wp2_with fail
  refine (strands_ok A1 A2 c1 c2 sg mt L w1 (· < w1.heap.size) HD1.out.rs HD1.out.rm (fun _ h => h) H.out).mono ?_
  rintro e w2 ⟨v, rfl, hr, hb2⟩
  obtain ⟨As, cs, rfl, -⟩ := hr.reads
  rw [rows_cycs_length]
  have HB2 := Lib.hid (HB1.out.trans (hb2.mono HB1.out.size))
  have k2 := (HD1.out.below hb2).c2
  obtain ⟨ns, hns⟩ : ∃ n, (strandsL sg mt).length = n := ⟨_, rfl⟩
  rw [hns] at hci hnl ⊢
  have hw : IntKind.i64.wrap ((ns : Int) + L) = (ns : Int) + L := IntWalk.i64_in _ (by omega)
  clear hr hb2 k0 k1 hns HD1 HB1
  rcases hci with ⟨h0, rfl⟩ | ⟨h0, h1, rfl⟩ | ⟨h0, h1, rfl⟩
  · go_wp2_with fail
    go_ret2
    exact ⟨rfl, HB2.out⟩
  · have h2 : ¬ ci < 0 := by omega
    go_wp2_with fail
    go_ret2
    exact ⟨rfl, HB2.out⟩
  · have h2 : ¬ ci < 0 := by omega
    have h3 : ¬ (ns : Int) + L ≤ ci := by omega
    go_wp2_with fail
    go_ret2
    exact ⟨rfl, HB2.out⟩
set_option maxRecDepth 100000 in
set_option maxHeartbeats 8000000 in
theorem long_ok (i : Nat) (hd : IsD sg mt L) (hi : i < (strandsL sg mt).length) :
    Calls Try.prog 30 #[.agg #[.slice A1 sg.length c1, .slice A2 mt.length c2, .int .i64 L], .int .i64 (i : Int)] w fun e w' => ∃ v, e = .returned (.tuple #[v, .int .i64 0]) ∧ OI w' w.heap.size v (lonL sg mt i) ∧ Below w.heap.size w w' := by
  have HD := Lib.hid (DBox.start (c1 := c1) (c2 := c2) (L := L) S hx hy hS)
  have H := Lib.hid hd
  have HI := Lib.hid hi
  have hm1 : sg.length ≤ maxLen := by have := hd.1; unfold maxLen; omega
  have hm2 : mt.length ≤ maxLen := by have := hd.1; have := hd.2.1; unfold maxLen; omega
  have hL1 := hd.2.2.1
  have hL2 := hd.2.2.2.1
  have hsg := hd.1
  have hmt := hd.2.1
  have hnl : (strandsL sg mt).length ≤ 256 := by
    have h1 := strandsL_most sg mt
    omega
  obtain ⟨p, hp⟩ : ∃ p, (stN sg mt i).length = p := ⟨_, rfl⟩
  have hp0 : 0 < p := by rw [← hp]; exact st_pos hd hi
  have hp1 : p ≤ 256 := by rw [← hp]; have := stN_len hd.2.2.2.2.2.1 hd.2.1 hi; omega
  have HP := Lib.hid hp
  have hac : arC sg mt ≤ 256 := by
    have h1 := cnt_le (headB (arR sg mt)) mt.length
    unfold arC; omega
  have HAC := Lib.hid hac
  have HMT := Lib.hid hmt
  clear hx hy hS hd hp hac hmt
  go_enter Try.func30, Try.ntmps30
  go_wp2_with fail
  refine (dvalid_is _ true HD.out.rs HD.out.rm (fun _ h => h) hm1 hm2 (decide_eq_true H.out)).mono ?_
  rintro e w1 ⟨rfl, hb1⟩
  have HD1 := Lib.hid (HD.out.below hb1)
  have k0 := HD1.out.c0
  have k1 := HD1.out.c1
  have k2 := HD1.out.c2
  have HB1 := Lib.hid (below_box (o := (.cells #[.slice A1 sg.length c1, .slice A2 mt.length c2, .int .i64 L] 24)) (by simpa using hb1))
  clear hb1 HD hm1 hm2
  go_wp2_with fail
  refine (strands_ok A1 A2 c1 c2 sg mt L w1 (· < w1.heap.size) HD1.out.rs HD1.out.rm (fun _ h => h) H.out).mono ?_
  rintro e w2 ⟨v, rfl, hr, hb⟩
  obtain ⟨As, cs, rfl, hrl⟩ := hr.reads
  rw [rows_cycs_length]
  have HB2 := Lib.hid (HB1.out.trans (hb.mono HB1.out.size))
  have HD2 := Lib.hid (HD1.out.below hb)
  have HRL := Lib.hid (hrl.imp (T := (· < w2.heap.size)) fun b hb => hb.2)
  obtain ⟨ns, hns⟩ : ∃ n, (strandsL sg mt).length = n := ⟨_, rfl⟩
  rw [hns] at hi hnl ⊢
  have hw : IntKind.i64.wrap ((ns : Int) + L) = (ns : Int) + L := IntWalk.i64_in _ (by omega)
  have h1 : ¬ (ns : Int) + L ≤ (i : Int) := by omega
  have h2 : ¬ (ns : Int) ≤ (i : Int) := by omega
  have h3 : (i : Int) < (ns : Int) := by omega
  clear hr hrl hb k0 k1 k2 hns HD1 HB1 hi
  have k0 := HD2.out.c0
  have k1 := HD2.out.c1
  have k2 := HD2.out.c2
  go_wp2_with fail
  refine (arcs_ok A1 A2 c1 c2 sg mt L w2 (· < w2.heap.size) HD2.out.rs HD2.out.rm (fun _ h => h) H.out).mono ?_
  rintro e w3 ⟨va, rfl, hoa, hb⟩
  have HB3 := Lib.hid (HB2.out.trans (hb.mono HB2.out.size))
  have HD3 := Lib.hid (HD2.out.below hb)
  obtain ⟨Aa, ca, hva, -, -, hra⟩ := hoa.reads
  rw [arL_len] at hva
  subst hva
  have HRA := Lib.hid (hra.imp (T := (· < w3.heap.size)) fun b hb => hb.2)
  have hrl := HRL.out.below hb
  obtain ⟨b, off, rfl, -, hc⟩ := hrl.at_ (k := i) (by rw [rows_cycs_length]; exact HI.out)
  obtain ⟨Ak, ck, k3, r3, -⟩ := hc i (by rw [rows_cycs_length]; exact HI.out)
  rw [rows_getD HI.out, stN_eq HI.out] at k3 r3
  rw [ints_length, HP.out] at k3
  have HR3 := Lib.hid (r3.imp (T := (· < w3.heap.size)) fun b h => Nat.lt_of_lt_of_le h hb.size)
  clear hoa hra hb hrl hc r3 HD2 HB2 HRL k0 k1 k2
  have k0 := HD3.out.c0
  have k1 := HD3.out.c1
  have k2 := HD3.out.c2
  have hmm := make_mapB
  have HM0 : Hid (OwS w3 (w3.alloc (.map #[] 0)) w3.heap.size 0 (.map []) (ownB sg mt i 0)) :=
    ⟨(Below.refl _ _).alloc (Nat.le_refl _) _, World.ownsMap_made w3 _ _ _, OwD.start, by simp⟩
  go_wp2_with fail
  obtain ⟨bm, hbm⟩ : ∃ b, w3.heap.size = b := ⟨_, rfl⟩
  have HBM := Lib.hid hbm
  rw [hbm] at HM0 ⊢
  clear hbm k0 k1 k2 k3 hmm
  go_loopw [52] (fun i' wr => ∃ (k : Nat) (D : DataW Unit), k ≤ p ∧ i' = .int .i64 k ∧ Hid (OwS w3 wr bm k D (ownB sg mt i k))) (fun i' _ => p - (intOf i').toNat)
  case atStart => exact ⟨0, _, Nat.zero_le _, rfl, HM0⟩
  case round =>
    clear HM0
    obtain ⟨k, D, hk, rfl, HO⟩ := hrel
    by_cases hlt : k < p
    · have hkl : k < (stN sg mt i).length := by rw [HP.out]; exact hlt
      have hr := HR3.out.keep (w' := wr) (fun b h => HO.out.bel.block b (by rw [← HBM.out]; exact h))
      obtain ⟨b2, off2, rfl, -, hc⟩ := hr.at_ (k := k) (by rw [ints_length]; exact hkl)
      have c1 := hc k (by rw [ints_length]; exact hkl)
      rw [gi_ints hkl] at c1
      have hxl := (st_lt H.out HI.out hkl).1
      have hra := HRA.out.keep (w' := wr) (fun b h => HO.out.bel.block b (by rw [← HBM.out]; exact h))
      have hown2 := fun a => (ownB_succ (sg := sg) (mt := mt) (a := a) hkl).symm
      obtain ⟨x, hx⟩ : ∃ x, gN (stN sg mt i) k = x := ⟨_, rfl⟩
      simp only [hx] at c1 hxl hown2
      obtain ⟨b3, off3, rfl, -, hc3⟩ := hra.at_ (k := x) (by rw [arL_len]; exact hxl)
      have c2 := hc3 x (by rw [arL_len]; exact hxl)
      rw [gi_arL hxl] at c2
      have hal := arN_lt H.out.2.2.2.2.2.1 H.out.2.1 hxl
      obtain ⟨y, hy⟩ : ∃ y, arN sg mt x = y := ⟨_, rfl⟩
      simp only [hy] at c2 hal hown2
      have hkey := key_int (show y ≤ 1099511627776 by have := HAC.out; omega)
      have hown := HO.out.map
      have i1 : (0 : Int) ≤ (x : Int) ∧ (x : Int) < (mt.length : Int) := by omega
      have HW2 := Lib.hid (funext hown2)
      clear hr hc hra hc3 hx hy hal hown2 hkl
      go_wp2_with (first
        | (at_mapUpdate; refine wpList_mapUpdate_own _ rfl _ _ _ 78 rfl 3 4 keyed_int Try.underlying78 _ bm k _ rfl hown (by unfold maxLen; omega) _ _ _ rfl rfl hkey _ [] (plainElem_bool Try.underlying4 true) ?_; intro w8 hown8 hgrow8)
        | go_in)
      have HO' := Lib.hid (HO.out.put hown8 hgrow8)
      rw [HW2.out] at HO'
      clear hown8 hgrow8 hown hkey HO
      go_roundw
      case rel => exact ⟨k + 1, _, by omega, by go_num, HO'⟩
      case measure => simp [intOf]; omega
    · obtain rfl : p = k := by omega
      obtain ⟨w5, rfl⟩ : ∃ x : World, x = wr := ⟨_, rfl⟩
      have HO5 := HO
      clear hlt HO
      go_wp2_with fail
      have hsz5 : w3.heap.size ≤ w5.heap.size := by rw [HBM.out]; exact Nat.le_of_lt HO5.out.lt
      have HB5 := Lib.hid (HB3.out.trans (HO5.out.bel.mono (by rw [← HBM.out]; exact HB3.out.size)))
      have HD5 := Lib.hid (HD3.out.below (HO5.out.bel.mono (by rw [← HBM.out]; exact Nat.le_refl _)))
      have HR5 := Lib.hid ((HR3.out.keep (w' := w5) (fun b h => HO5.out.bel.block b (by rw [← HBM.out]; exact h))).imp (T := (· < w5.heap.size)) fun b h => Nat.lt_of_lt_of_le h hsz5)
      have HA5 := Lib.hid ((HRA.out.keep (w' := w5) (fun b h => HO5.out.bel.block b (by rw [← HBM.out]; exact h))).imp (T := (· < w5.heap.size)) fun b h => Nat.lt_of_lt_of_le h hsz5)
      have HV0 : Hid (OI w5 w5.heap.size (.slice none 0 0) (lnL sg mt i 0)) := OR.nil _ _
      clear HR3 HRA HD3 HB3 hsz5
      go_loopw [13, 14, 64] (fun v s i' wr => ∃ k : Nat, k ≤ p ∧ i' = .int .i64 k ∧ s = .int .i64 (lnS sg mt i k) ∧ Hid (OI wr w5.heap.size v (lnL sg mt i k)) ∧ Hid (Below w5.heap.size w5 wr)) (fun _ _ i' _ => p - (intOf i').toNat)
      case atStart => exact ⟨0, Nat.zero_le _, rfl, rfl, HV0, Below.refl _ _⟩
      case round =>
        clear HV0
        obtain ⟨k, hk, rfl, rfl, HV, HB⟩ := hrel
        by_cases hlt : k < p
        · have hkl : k < (stN sg mt i).length := by rw [HP.out]; exact hlt
          obtain ⟨j, hj⟩ : ∃ j, (k + 1) % p = j := ⟨_, rfl⟩
          have hjp : j < p := by rw [← hj]; exact Nat.mod_lt _ hp0
          have hjl : j < (stN sg mt i).length := by rw [HP.out]; exact hjp
          have HJ := Lib.hid hj
          have tm : ((k : Int) + 1).tmod (p : Int) = (j : Int) := by rw [Int.tmod_eq_emod_of_nonneg (by omega), ← hj]; rfl
          have tm2 : ((k : Int) + 1) % (p : Int) = (j : Int) := by rw [← hj]; rfl
          have hz : ¬ (p : Int) = 0 := by omega
          have i0 : (0 : Int) ≤ (j : Int) ∧ (j : Int) < (p : Int) := by omega
          have hr := HR5.out.below HB.out
          obtain ⟨b2, off2, rfl, -, hc⟩ := hr.at_ (k := j) (by rw [ints_length]; exact hjl)
          have c1 := hc j (by rw [ints_length]; exact hjl)
          rw [gi_ints hjl] at c1
          have hxl := (st_lt H.out HI.out hjl).1
          obtain ⟨x, hx⟩ : ∃ x, gN (stN sg mt i) j = x := ⟨_, rfl⟩
          rw [hx] at c1 hxl
          have hnx := next_m H.out HI.out hkl (h := x) (by rw [HP.out, HJ.out]; exact hx)
          have hlL := lnL_succ sg mt i k
          have hlS := lnS_succ sg mt i k
          have hml := m_lt H.out HI.out hkl
          have hbS := lnS_bd H.out HI.out k (by omega)
          obtain ⟨m, hm⟩ : ∃ m, mN sg mt i k = m := ⟨_, rfl⟩
          rw [hm] at hnx hlL hlS hml
          rw [HP.out] at hlS
          clear hr hc hx hm hj hjl
          by_cases h2 : x % 4 = 2
          · obtain ⟨e1, e2⟩ := hnx.2 h2
            have e0 := hnx.1.1 h2
            rw [if_pos e0] at hlL hlS
            have m1 : (x : Int).tmod 4 = 2 := by rw [Int.tmod_eq_emod_of_nonneg (by omega)]; omega
            have m2 : (x : Int) % 4 = 2 := by omega
            clear hnx h2 e0
            have hyl : m + 1 < mt.length := by have := HMT.out; omega
            have hcl : m / 4 < sg.length := by have := HMT.out; omega
            have hal := arN_lt (sg := sg) H.out.2.2.2.2.2.1 H.out.2.1 hyl
            have hsn := H.out.2.2.2.2.1 _ hcl
            obtain ⟨b3, off3, rfl, -, hc3⟩ := (HA5.out.below HB.out).at_ (k := m + 1) (by rw [arL_len]; exact hyl)
            have c2 := hc3 (m + 1) (by rw [arL_len]; exact hyl)
            rw [gi_arL hyl] at c2
            have HDr := HD5.out.below HB.out
            have k0 := HDr.c0
            obtain ⟨b4, off4, rfl, -, hc4⟩ := HDr.rs.at_ hcl
            have c3 := hc4 _ hcl
            obtain ⟨o, ho⟩ : ∃ o, arN sg mt (m + 1) = o := ⟨_, rfl⟩
            obtain ⟨c, hc⟩ : ∃ c, m / 4 = c := ⟨_, rfl⟩
            obtain ⟨y, hy⟩ : ∃ y, m + 1 = y := ⟨_, rfl⟩
            rw [ho, hy] at c2
            rw [hc] at c3 hcl hsn hlL hlS e1
            rw [ho] at hal hlL hlS
            rw [hy] at e2 hyl
            obtain ⟨s, hs⟩ : ∃ s, lnS sg mt i k = s := ⟨_, rfl⟩
            rw [hs] at hlS hbS ⊢
            obtain ⟨sn, hsn1⟩ : ∃ x, gi sg c = x := ⟨_, rfl⟩
            rw [hsn1] at c3 hsn hlL hlS
            obtain ⟨t, ht⟩ : ∃ t, sn * ((o : Int) + 1) = t := ⟨_, rfl⟩
            rw [ht] at hlL
            have ht2 : t = (o : Int) + 1 ∨ t = -((o : Int) + 1) := by
              rcases hsn with e | e
              · rw [e] at ht; exact .inl (by omega)
              · rw [e] at ht; exact .inr (by omega)
            have wm : IntKind.i64.wrap (sn * ((o : Int) + 1)) = t := by rw [ht]; exact IntWalk.i64_in _ (by have := HAC.out; omega)
            have ws : IntKind.i64.wrap (s + sn) = s + sn := IntWalk.i64_in _ (by omega)
            clear ht ht2 hsn1 hsn
            have hsb : s ≤ 300 ∧ -300 ≤ s := by omega
            have s1 : IntKind.i64.wrap ((x : Int) - 1) = (y : Int) := by rw [show (x : Int) - 1 = (y : Int) by omega]; exact IntWalk.i64_in _ (by have := HMT.out; omega)
            have s2 : (x : Int).tdiv 4 = (c : Int) := by rw [Int.tdiv_eq_ediv_of_nonneg (by omega)]; omega
            have s3 : IntKind.i64.wrap (c : Int) = (c : Int) := IntWalk.i64_in _ (by omega)
            have i1 : (0 : Int) ≤ (y : Int) ∧ (y : Int) < (mt.length : Int) := by omega
            have i2 : (0 : Int) ≤ (c : Int) ∧ (c : Int) < (sg.length : Int) := by omega
            have ho2 : o ≤ 256 := by have := HAC.out; omega
            have hll : (lnL sg mt i k).length < 1099511627776 := by have := lnL_len (sg := sg) (mt := mt) (i := i) k; omega
            have HLL := Lib.hid hll
            clear hc3 hc4 HDr ho hy hc hs hal e1 e2 hml hll
            have w0 : IntKind.i64.wrap ((o : Int) + 1) = (o : Int) + 1 := IntWalk.i64_in _ (by omega)
            go_wp2_with fail
            go_quiet (fail)
            obtain ⟨wq, hwq⟩ : ∃ wq, wr.drewN nq = wq := ⟨_, rfl⟩
            rw [hwq]
            have HVq : Hid (OI wq w5.heap.size u13 (lnL sg mt i k)) := by rw [← hwq]; exact HV.out.drewN nq
            have HBq : Hid (Below w5.heap.size w5 wq) := by rw [← hwq]; exact below_drewN HB.out nq
            have hszq := HBq.out.size
            clear hwq c1 c2 c3 k0 HV HB
            have HLN := Lib.hid hlL
            clear hlL
            by_cases hq : ownB sg mt i p o = true
            · have HS := Lib.hid (hlS.trans (if_pos hq))
              have hat := HO5.out.ow.at_ o
              rw [hq] at hat
              have hkey := key_int (Nat.le_trans ho2 (by decide : 256 ≤ 1099511627776))
              have HAT := Lib.hid hat
              have HKY := Lib.hid hkey
              clear hq hlS hbS hat hkey
              go_wp2_with (at_builtin; refine app1 HVq.out HLL.out hszq rfl rfl Try.underlying42 rfl rfl ?_; intro v' w' ho hg hob; have hlk := look_bool (ownsMap_same HO5.out.map ((HVq.out.grown_below HBq.out hszq _ hg).block bm HO5.out.lt)) HKY.out HAT.out)
              have HV' : Hid (OI w' w5.heap.size v' (lnL sg mt i (k + 1))) := by rw [HLN.out]; exact ho
              have HB' := Lib.hid (HVq.out.grown_below HBq.out hszq _ hg)
              clear ho hg hob hlk HVq HBq HLN ws wm s1 s2 s3 w0 tm tm2 hz m1 m2 i0 i1 i2
              go_roundw
              case rel => exact ⟨k + 1, by omega, by go_num, by rw [HS.out], HV', HB'⟩
              case measure => simp [intOf]; omega
            · have HS := Lib.hid (hlS.trans (if_neg hq))
              have hat := HO5.out.ow.at_ o
              rw [Bool.eq_false_iff.2 hq] at hat
              have hkey := key_int (Nat.le_trans ho2 (by decide : 256 ≤ 1099511627776))
              have HAT := Lib.hid hat
              have HKY := Lib.hid hkey
              clear hq hlS hbS hat hkey
              go_wp2_with (at_builtin; refine app1 HVq.out HLL.out hszq rfl rfl Try.underlying42 rfl rfl ?_; intro v' w' ho hg hob; have hlk := look_bool (ownsMap_same HO5.out.map ((HVq.out.grown_below HBq.out hszq _ hg).block bm HO5.out.lt)) HKY.out HAT.out)
              have HV' : Hid (OI w' w5.heap.size v' (lnL sg mt i (k + 1))) := by rw [HLN.out]; exact ho
              have HB' := Lib.hid (HVq.out.grown_below HBq.out hszq _ hg)
              clear ho hg hob hlk HVq HBq HLN ws wm s1 s2 s3 w0 tm tm2 hz m1 m2 i0 i1 i2
              go_roundw
              case rel => exact ⟨k + 1, by omega, by go_num, by rw [HS.out], HV', HB'⟩
              case measure => simp [intOf]; omega
          · have e0 : ¬ m % 4 = 0 := fun e => h2 (hnx.1.2 e)
            rw [if_neg e0] at hlL hlS
            have m1 : (((x : Int).tmod 4) != 2) = true := by rw [bne_iff_ne, Int.tmod_eq_emod_of_nonneg (by omega)]; omega
            have m2 : ((x : Int) % 4 != 2) = true := by rw [bne_iff_ne]; omega
            have m3 : (((x % 4 : Nat) : Int) != 2) = true := by rw [bne_iff_ne]; omega
            have HV' : Hid (OI wr w5.heap.size u13 (lnL sg mt i (k + 1))) := by rw [hlL]; exact HV.out
            have HS := Lib.hid hlS
            clear hnx hlL hlS h2 e0
            go_wp2_with fail
            go_roundw
            case rel => exact ⟨k + 1, by omega, by go_num, by rw [HS.out], HV', HB⟩
            case measure => simp [intOf]; omega
        · obtain rfl : p = k := by omega
          have hkl : 0 < (stN sg mt i).length := by rw [HP.out]; exact hp0
          have hr := HR5.out.below HB.out
          obtain ⟨b2, off2, rfl, -, hc⟩ := hr.at_ (k := 0) (by rw [ints_length]; exact hkl)
          have c1 := hc 0 (by rw [ints_length]; exact hkl)
          rw [gi_ints hkl, Nat.add_zero] at c1
          have hxl := (st_lt H.out HI.out hkl).1
          have hF : lnF sg mt i = (arN sg mt (gN (stN sg mt i) 0) : Int) + 1 := rfl
          obtain ⟨x, hx⟩ : ∃ x, gN (stN sg mt i) 0 = x := ⟨_, rfl⟩
          rw [hx] at c1 hxl hF
          obtain ⟨b3, off3, rfl, -, hc3⟩ := (HA5.out.below HB.out).at_ (k := x) (by rw [arL_len]; exact hxl)
          have c2 := hc3 x (by rw [arL_len]; exact hxl)
          rw [gi_arL hxl] at c2
          have hal := arN_lt (sg := sg) H.out.2.2.2.2.2.1 H.out.2.1 hxl
          obtain ⟨o, ho⟩ : ∃ o, arN sg mt x = o := ⟨_, rfl⟩
          rw [ho] at c2 hal hF
          have ho2 : o ≤ 256 := by have := HAC.out; omega
          have hbS := lnS_bd H.out HI.out p (by rw [HP.out]; exact Nat.le_refl _)
          have hT : lnT sg mt i = if 0 < lnS sg mt i p then - lnF sg mt i else lnF sg mt i := by unfold lnT; rw [HP.out]
          have hW0 : Hid (OI wr w5.heap.size u13 (lonW sg mt i 0)) := by rw [lonW_zero, HP.out]; exact HV.out
          have hE : lonL sg mt i = redL (lonW sg mt i (lnS sg mt i p).natAbs) := by unfold lonL; rw [HP.out]
          obtain ⟨s, hs⟩ : ∃ s, lnS sg mt i p = s := ⟨_, rfl⟩
          rw [hs] at hbS hT hE ⊢
          obtain ⟨f, hf⟩ : ∃ f, lnF sg mt i = f := ⟨_, rfl⟩
          rw [hf] at hT hF
          have w0 : IntKind.i64.wrap ((o : Int) + 1) = f := by rw [hF]; exact IntWalk.i64_in _ (by omega)
          have w1 : IntKind.i64.wrap (-f) = -f := by rw [hF]; exact IntWalk.i64_in _ (by omega)
          have w2 : IntKind.i64.wrap (-s) = -s := IntWalk.i64_in _ (by omega)
          have i1 : (0 : Int) ≤ (x : Int) ∧ (x : Int) < (mt.length : Int) := by omega
          have i0 : (0 : Int) < (p : Int) := by omega
          obtain ⟨q, hq⟩ : ∃ q : Nat, s.natAbs = q := ⟨_, rfl⟩
          have hq2 : q ≤ 256 := by omega
          rw [hq] at hE
          have HE := Lib.hid hE
          have HF := Lib.hid hF
          clear hr hc hc3 hx ho hs hf hlt hal HV hkl hE hF
          obtain ⟨w6, rfl⟩ : ∃ x : World, x = wr := ⟨_, rfl⟩
          by_cases hpos : 0 < s
          · have HT := Lib.hid (hT.trans (if_pos hpos))
            obtain rfl : s = (q : Int) := by omega
            have h5 : ¬ (q : Int) < -(q : Int) := by omega
            have h6 : -(q : Int) < (q : Int) := by omega
            clear hbS hq hT
            go_wp2_with fail
            go_loopw [13, 114] (fun v i' wr => ∃ k : Nat, k ≤ q ∧ i' = .int .i64 k ∧ Hid (OI wr w5.heap.size v (lonW sg mt i k)) ∧ Hid (Below w5.heap.size w5 wr)) (fun _ i' _ => q - (intOf i').toNat)
            case atStart => exact ⟨0, Nat.zero_le _, rfl, hW0, HB⟩
            case round =>
              clear hW0 HB
              obtain ⟨k, hk, rfl, HV, HB⟩ := hrel
              have hln := lonW_len (sg := sg) (mt := mt) (i := i) (k := k)
              rw [HP.out] at hln
              by_cases hlt : k < q
              · have hll : (lonW sg mt i k).length < 1099511627776 := by omega
                have HLL := Lib.hid hll
                have hsz := HB.out.size
                clear hll hln
                go_wp2_with (at_builtin; refine app1 HV.out HLL.out hsz rfl rfl Try.underlying42 rfl rfl ?_; intro v' w' ho hg hob)
                have HV' : Hid (OI w' w5.heap.size v' (lonW sg mt i (k + 1))) := by rw [lonW_succ, HT.out]; exact ho
                have HB' := Lib.hid (HV.out.grown_below HB.out hsz _ hg)
                clear ho hg hob HV HB HLL
                go_roundw
                case rel => exact ⟨k + 1, by omega, by go_num, HV', HB'⟩
                case measure => simp [intOf]; omega
              · obtain rfl : q = k := by omega
                obtain ⟨Av, cv, hv, -, -, hrv⟩ := HV.out.reads
                subst hv
                have HRV := Lib.hid hrv
                have HBD := Lib.hid (lonW_bd H.out HI.out (k := q))
                have hll : (lonW sg mt i q).length < 1099511627776 := by omega
                have HLL := Lib.hid hll
                have HBT := Lib.hid (HB5.out.trans (HB.out.mono HB5.out.size))
                have hs1 := HBT.out.size
                clear hrv hll hln hlt HV HB
                go_wp2_with fail
                refine (reduce_any Av cv (lonW sg mt i q) wr (· < wr.heap.size) (HRV.out.imp fun b hb => hb.2) (fun _ h => h) HLL.out HBD.out).mono ?_
                rintro e w9 ⟨v9, rfl, ho, hb⟩
                have HO9 : Hid (OI w9 w.heap.size v9 (lonL sg mt i)) := by rw [HE.out]; exact ho.mono hs1
                have HB9 := Lib.hid (HBT.out.trans (hb.mono hs1))
                clear ho hb HRV
                go_wp2_with fail
                go_ret2
                exact ⟨_, rfl, HO9.out, HB9.out⟩
          · by_cases h0 : s < 0
            · have HT := Lib.hid (hT.trans (if_neg hpos))
              have w3 : IntKind.i64.wrap (-s) = (q : Int) := by rw [w2]; omega
              have h5 : s < (q : Int) := by omega
              have h6 : ¬ (q : Int) < s := by omega
              clear w2 hbS hq hT
              go_wp2_with fail
              go_loopw [13, 114] (fun v i' wr => ∃ k : Nat, k ≤ q ∧ i' = .int .i64 k ∧ Hid (OI wr w5.heap.size v (lonW sg mt i k)) ∧ Hid (Below w5.heap.size w5 wr)) (fun _ i' _ => q - (intOf i').toNat)
              case atStart => exact ⟨0, Nat.zero_le _, rfl, hW0, HB⟩
              case round =>
                clear hW0 HB
                obtain ⟨k, hk, rfl, HV, HB⟩ := hrel
                have hln := lonW_len (sg := sg) (mt := mt) (i := i) (k := k)
                rw [HP.out] at hln
                by_cases hlt : k < q
                · have hll : (lonW sg mt i k).length < 1099511627776 := by omega
                  have HLL := Lib.hid hll
                  have hsz := HB.out.size
                  clear hll hln
                  go_wp2_with (at_builtin; refine app1 HV.out HLL.out hsz rfl rfl Try.underlying42 rfl rfl ?_; intro v' w' ho hg hob)
                  have HV' : Hid (OI w' w5.heap.size v' (lonW sg mt i (k + 1))) := by rw [lonW_succ, HT.out]; exact ho
                  have HB' := Lib.hid (HV.out.grown_below HB.out hsz _ hg)
                  clear ho hg hob HV HB HLL
                  go_roundw
                  case rel => exact ⟨k + 1, by omega, by go_num, HV', HB'⟩
                  case measure => simp [intOf]; omega
                · obtain rfl : q = k := by omega
                  obtain ⟨Av, cv, hv, -, -, hrv⟩ := HV.out.reads
                  subst hv
                  have HRV := Lib.hid hrv
                  have HBD := Lib.hid (lonW_bd H.out HI.out (k := q))
                  have hll : (lonW sg mt i q).length < 1099511627776 := by omega
                  have HLL := Lib.hid hll
                  have HBT := Lib.hid (HB5.out.trans (HB.out.mono HB5.out.size))
                  have hs1 := HBT.out.size
                  clear hrv hll hln hlt HV HB
                  go_wp2_with fail
                  refine (reduce_any Av cv (lonW sg mt i q) wr (· < wr.heap.size) (HRV.out.imp fun b hb => hb.2) (fun _ h => h) HLL.out HBD.out).mono ?_
                  rintro e w9 ⟨v9, rfl, ho, hb⟩
                  have HO9 : Hid (OI w9 w.heap.size v9 (lonL sg mt i)) := by rw [HE.out]; exact ho.mono hs1
                  have HB9 := Lib.hid (HBT.out.trans (hb.mono hs1))
                  clear ho hb HRV
                  go_wp2_with fail
                  go_ret2
                  exact ⟨_, rfl, HO9.out, HB9.out⟩
            · have HT := Lib.hid (hT.trans (if_neg hpos))
              obtain rfl : s = 0 := by omega
              obtain rfl : q = 0 := by omega
              clear w2 hbS hq hT hpos h0
              go_wp2_with fail
              go_loopw [13, 114] (fun v i' wr => ∃ k : Nat, k ≤ 0 ∧ i' = .int .i64 k ∧ Hid (OI wr w5.heap.size v (lonW sg mt i k)) ∧ Hid (Below w5.heap.size w5 wr)) (fun _ i' _ => 0 - (intOf i').toNat)
              case atStart => exact ⟨0, Nat.zero_le _, rfl, hW0, HB⟩
              case round =>
                clear hW0 HB
                obtain ⟨k, hk, rfl, HV, HB⟩ := hrel
                have hln := lonW_len (sg := sg) (mt := mt) (i := i) (k := k)
                rw [HP.out] at hln
                obtain rfl : k = 0 := by omega
                obtain ⟨Av, cv, hv, -, -, hrv⟩ := HV.out.reads
                subst hv
                have HRV := Lib.hid hrv
                have HBD := Lib.hid (lonW_bd H.out HI.out (k := 0))
                have hll : (lonW sg mt i 0).length < 1099511627776 := by omega
                have HLL := Lib.hid hll
                have HBT := Lib.hid (HB5.out.trans (HB.out.mono HB5.out.size))
                have hs1 := HBT.out.size
                clear hrv hll hln HV HB
                go_wp2_with fail
                refine (reduce_any Av cv (lonW sg mt i 0) wr (· < wr.heap.size) (HRV.out.imp fun b hb => hb.2) (fun _ h => h) HLL.out HBD.out).mono ?_
                rintro e w9 ⟨v9, rfl, ho, hb⟩
                have HO9 : Hid (OI w9 w.heap.size v9 (lonL sg mt i)) := by rw [HE.out]; exact ho.mono hs1
                have HB9 := Lib.hid (HBT.out.trans (hb.mono hs1))
                clear ho hb HRV
                go_wp2_with fail
                go_ret2
                exact ⟨_, rfl, HO9.out, HB9.out⟩
end
end Go.Proofs.Ytcjgfncbecbhjaa

