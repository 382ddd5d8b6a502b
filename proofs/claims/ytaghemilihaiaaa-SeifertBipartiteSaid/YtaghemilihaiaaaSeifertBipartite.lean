/-
  The law SeifertBipartite, walked: the call returns true and writes nothing that was there.
-/
import Derived.Test.YtaghemilihaiaaaAw32
import Derived.Test.YtaghemilihaiaaaBip
import Derived.Test.YtaghemilihaiaaaDArg
namespace Go.Proofs.Ytaghemilihaiaaa
open Go.RowKit

theorem bo_next {n m : Nat} {e : Nat → Nat × Nat} {k : Nat} {s : List Int} (h : BO n m e k s) (hk : gi s k ≠ 0) : BO n m e (k + 1) s :=
  ⟨h.len, h.bd, h.out, fun v hv => by
    rcases Nat.lt_or_eq_of_le (Nat.le_of_lt_succ hv) with h1 | h1
    · exact h.nz v h1
    · rw [h1]; exact hk⟩
theorem bo_zero (n m : Nat) (e : Nat → Nat × Nat) : BO n m e 0 (List.replicate n 0) := by
  have hz : ∀ v, gi (List.replicate n (0 : Int)) v = 0 := by
    intro v
    unfold gi
    rw [List.getD_eq_getElem?_getD, List.getElem?_replicate]
    split <;> rfl
  exact ⟨by simp, fun v => by rw [hz]; omega, fun k _ => by rw [hz, hz]; rfl, fun v hv => by omega⟩
theorem bst_two_A {s : List Int} {a b : Nat} {x : Int} (hx : gi s a = x) (hy : gi s b = 0) (h0 : ¬ x = 0) (_ha : a < s.length) (hb : b < s.length) (hne : ¬ a = b) : bst (bst s a b) b a = s.set b (-x) := by
  have e1 : bst s a b = s.set b (-x) := by unfold bst; rw [if_pos ⟨by rw [hx]; exact h0, hy⟩, hx]
  rw [e1]
  unfold bst
  rw [if_neg]
  rw [gi_set hb, gi_set hb, if_pos rfl, if_neg hne, hx]
  rintro ⟨-, h⟩
  exact h0 h
theorem bst_two_B {s : List Int} {a b : Nat} {y : Int} (hx : gi s a = 0) (hy : gi s b = y) (h0 : ¬ y = 0) (_ha : a < s.length) (_hb : b < s.length) (_hne : ¬ a = b) : bst (bst s a b) b a = s.set a (-y) := by
  have e1 : bst s a b = s := by unfold bst; rw [if_neg (fun h => h.1 hx)]
  rw [e1]
  unfold bst
  rw [if_pos ⟨by rw [hy]; exact h0, hx⟩, hy]
/-- the edges, as numbers -/
def ednN (sg mt : List Int) (k : Nat) : Nat × Nat := (numN (nxC sg mt) mt.length (outB sg) (4 * k + 2), numN (nxC sg mt) mt.length (outB sg) (overN sg k))
theorem be_of {sg mt : List Int} {L : Int} (hd : IsD sg mt L) {nn : Nat} (hnn : ((circL sg mt).length : Int) + L = nn) : ∃ col, BE col nn sg.length (ednN sg mt) := by
  obtain ⟨col, h1, h2⟩ := bip_col hd
  refine ⟨col, h1, fun k hk => ?_, h2⟩
  obtain ⟨a, b, -, ha, hb, rfl, rfl⟩ := sedge_lt hd hk
  have := hd.2.2.1
  unfold ednN
  simp only
  omega
section
variable (A1 A2 : Option Addr) (c1 c2 : Nat) (sg mt : List Int) (L : Int) (w : World) (hd : DArg w A1 A2 sg mt L)
include hd

set_option maxHeartbeats 2000000 in
theorem sbip_great (hg : 14 < sg.length ∨ 80 < mt.length) :
    Calls Try.prog 6 #[.agg #[.slice A1 sg.length c1, .slice A2 mt.length c2, .int .i64 L]] w fun e w' => e = .returned (.bool true) ∧ Below w.heap.size w w' := by
  have HD := Lib.hid (DBox.start (c1 := c1) (c2 := c2) (L := L) (· < w.heap.size) hd.rs hd.rm (fun _ h => h))
  have HL1 := Lib.hid hd.ls
  have HL2 := Lib.hid hd.lm
  have HG := Lib.hid hg
  clear hd hg
  go_enter Try.func6, Try.ntmps6
  go_wp2_with fail
  refine (awake32 _).mono ?_
  rintro e w1 ⟨rfl, hb⟩
  have HD1 := Lib.hid (HD.out.below hb)
  have HB1 := Lib.hid (below_box (o := (.cells #[.slice A1 sg.length c1, .slice A2 mt.length c2, .int .i64 L] 24)) (by simpa using hb))
  clear hb
  have k0 := HD1.out.c0
  have k1 := HD1.out.c1
  have k2 := HD1.out.c2
  go_wp2_with fail
  refine (small_no A1 A2 c1 c2 sg mt L w1 HG.out).mono ?_
  rintro e w2 ⟨rfl, hb⟩
  have HD2 := Lib.hid (HD1.out.below hb)
  have HB2 := Lib.hid (HB1.out.trans (hb.mono HB1.out.size))
  clear hb k0 k1 k2 HD1 HB1
  have k0 := HD2.out.c0
  have k1 := HD2.out.c1
  have k2 := HD2.out.c2
  go_wp2_with fail
  go_ret
  exact ⟨rfl, HB2.out⟩

set_option maxHeartbeats 2000000 in
theorem sbip_no (hg1 : ¬ 14 < sg.length) (hg2 : ¬ 80 < mt.length) (hno : ¬ IsD sg mt L) :
    Calls Try.prog 6 #[.agg #[.slice A1 sg.length c1, .slice A2 mt.length c2, .int .i64 L]] w fun e w' => e = .returned (.bool true) ∧ Below w.heap.size w w' := by
  have HD := Lib.hid (DBox.start (c1 := c1) (c2 := c2) (L := L) (· < w.heap.size) hd.rs hd.rm (fun _ h => h))
  have HL1 := Lib.hid hd.ls
  have HL2 := Lib.hid hd.lm
  have HS1 := Lib.hid hg1
  have HS2 := Lib.hid hg2
  have HNO := Lib.hid (decide_eq_false hno)
  clear hd hg1 hg2 hno
  go_enter Try.func6, Try.ntmps6
  go_wp2_with fail
  refine (awake32 _).mono ?_
  rintro e w1 ⟨rfl, hb⟩
  have HD1 := Lib.hid (HD.out.below hb)
  have HB1 := Lib.hid (below_box (o := (.cells #[.slice A1 sg.length c1, .slice A2 mt.length c2, .int .i64 L] 24)) (by simpa using hb))
  clear hb
  have k0 := HD1.out.c0
  have k1 := HD1.out.c1
  have k2 := HD1.out.c2
  go_wp2_with fail
  refine (small_yes A1 A2 c1 c2 sg mt L w1 HS1.out HS2.out).mono ?_
  rintro e w2 ⟨rfl, hb⟩
  have HD2 := Lib.hid (HD1.out.below hb)
  have HB2 := Lib.hid (HB1.out.trans (hb.mono HB1.out.size))
  clear hb k0 k1 k2 HD1 HB1
  have k0 := HD2.out.c0
  have k1 := HD2.out.c1
  have k2 := HD2.out.c2
  go_wp2_with fail
  refine (dvalid_is (· < w2.heap.size) false HD2.out.rs HD2.out.rm (fun _ h => h) HL1.out HL2.out HNO.out).mono ?_
  rintro e w3 ⟨rfl, hb⟩
  have HD3 := Lib.hid (HD2.out.below hb)
  have HB3 := Lib.hid (HB2.out.trans (hb.mono HB2.out.size))
  clear hb k0 k1 k2 HD2 HB2
  have k0 := HD3.out.c0
  have k1 := HD3.out.c1
  have k2 := HD3.out.c2
  go_wp2_with fail
  go_ret
  exact ⟨rfl, HB3.out⟩

set_option maxRecDepth 100000 in
set_option maxHeartbeats 8000000 in
theorem sbip_ok (hg1 : ¬ 14 < sg.length) (hg2 : ¬ 80 < mt.length) (hi : IsD sg mt L) :
    Calls Try.prog 6 #[.agg #[.slice A1 sg.length c1, .slice A2 mt.length c2, .int .i64 L]] w fun e w' => e = .returned (.bool true) ∧ Below w.heap.size w w' := by
  have HD := Lib.hid (DBox.start (c1 := c1) (c2 := c2) (L := L) (· < w.heap.size) hd.rs hd.rm (fun _ h => h))
  have HL1 := Lib.hid hd.ls
  have HL2 := Lib.hid hd.lm
  have HS1 := Lib.hid hg1
  have HS2 := Lib.hid hg2
  have HI := Lib.hid hi
  have hsl : sg.length ≤ 14 := by omega
  have hcl : (circL sg mt).length ≤ 80 := by
    have := cycsL_len (nxC sg mt) mt.length (outB sg) mt.length
    rw [rows_cycs_length] at this
    unfold circL
    omega
  have hl0 := hi.2.2.1
  have hl1 := hi.2.2.2.1
  obtain ⟨nn, hnn⟩ : ∃ nn : Nat, ((circL sg mt).length : Int) + L = nn := ⟨((circL sg mt).length + L).toNat, by omega⟩
  obtain ⟨col, hcol⟩ := be_of hi hnn
  have HE := Lib.hid hcol
  have HNN := Lib.hid hnn
  have hnb : nn ≤ 144 := by omega
  have hmk := make_ints 22 Try.underlying22 nn (by omega)
  clear hd hg1 hg2 hi hcol hnn hl0 hl1 hcl
  go_enter Try.func6, Try.ntmps6
  go_wp2_with fail
  refine (awake32 _).mono ?_
  rintro e w1 ⟨rfl, hb⟩
  have HD1 := Lib.hid (HD.out.below hb)
  have HB1 := Lib.hid (below_box (o := (.cells #[.slice A1 sg.length c1, .slice A2 mt.length c2, .int .i64 L] 24)) (by simpa using hb))
  clear hb
  have k0 := HD1.out.c0
  have k1 := HD1.out.c1
  have k2 := HD1.out.c2
  go_wp2_with fail
  refine (small_yes A1 A2 c1 c2 sg mt L w1 HS1.out HS2.out).mono ?_
  rintro e w2 ⟨rfl, hb⟩
  have HD2 := Lib.hid (HD1.out.below hb)
  have HB2 := Lib.hid (HB1.out.trans (hb.mono HB1.out.size))
  clear hb k0 k1 k2 HD1 HB1
  have k0 := HD2.out.c0
  have k1 := HD2.out.c1
  have k2 := HD2.out.c2
  go_wp2_with fail
  refine (dvalid_is (· < w2.heap.size) true HD2.out.rs HD2.out.rm (fun _ h => h) HL1.out HL2.out (decide_eq_true HI.out)).mono ?_
  rintro e w3 ⟨rfl, hb⟩
  have HD3 := Lib.hid (HD2.out.below hb)
  have HB3 := Lib.hid (HB2.out.trans (hb.mono HB2.out.size))
  clear hb k0 k1 k2 HD2 HB2
  have k0 := HD3.out.c0
  have k1 := HD3.out.c1
  have k2 := HD3.out.c2
  go_wp2_with fail
  refine (sgraph_ok A1 A2 c1 c2 sg mt L w3 (· < w3.heap.size) HD3.out.rs HD3.out.rm (fun _ h => h) HI.out).mono ?_
  rintro e w4 ⟨v, rfl, hp, hb⟩
  have HD4 := Lib.hid (HD3.out.below hb)
  have HB4 := Lib.hid (HB3.out.trans (hb.mono HB3.out.size))
  obtain ⟨A, c, rfl, -, -⟩ := hp.shape
  rw [sedges_length] at hp ⊢
  rw [HNN.out]
  have HP4 := Lib.hid hp
  clear hp
  clear hb k0 k1 k2 HD3 HB3
  have k0 := HD4.out.c0
  have k1 := HD4.out.c1
  have k2 := HD4.out.c2
  go_wp2_with fail
  clear hmk k0 k1 k2
  obtain ⟨gs, hgs⟩ : ∃ gs, w4.heap.size = gs := ⟨_, rfl⟩
  have hpr : PRow w4 (w4.alloc (.cells (Array.replicate nn (Value.int .i64 0)) 3)) gs gs nn (List.replicate nn 0) := by
    subst hgs
    exact ⟨by have := OI.new w4 w4.heap.size nn (Nat.le_refl _) (by unfold maxLen; omega); simpa using this, (Below.refl _ _).alloc (Nat.le_refl _) _, by simp⟩
  have HPR := Lib.hid hpr
  have HGS := Lib.hid hgs
  rw [hgs]
  clear hpr hgs
  go_loopw [49] (fun i wr => ∃ (k : Nat) (s : List Int), k ≤ nn ∧ i = .int .i64 k ∧ Hid (PRow w4 wr gs gs nn s) ∧ Hid (BO nn sg.length (ednN sg mt) k s)) (fun i _ => nn - (intOf i).toNat)
  case atStart => exact ⟨0, _, Nat.zero_le _, rfl, HPR, bo_zero _ _ _⟩
  case round =>
    clear HPR
    obtain ⟨k, s, hk, rfl, HPR, HBO⟩ := hrel
    by_cases hlt : k < nn
    · obtain ⟨k1, k2⟩ := HPR.out.at_ HBO.out.len hlt
      by_cases h0 : gi s k = 0
      · rw [h0] at k1
        have hsz := HPR.out.size
        have HB := Lib.hid (bcol_start HE.out HBO.out hlt h0)
        have HPR1 := Lib.hid (HPR.out.store (k := k) HBO.out.len (Nat.le_refl _) 1)
        clear h0 HPR
        go_wp2_with fail
        clear k1 k2 hsz
        obtain ⟨old, hold⟩ : ∃ old, s = old := ⟨_, rfl⟩
        rw [hold] at HBO HB HPR1
        clear hold
        obtain ⟨w6, rfl⟩ : ∃ x : World, x = wr := ⟨_, rfl⟩
        go_loopw [62] (fun i wr => ∃ (t : Nat) (s : List Int), t ≤ sg.length ∧ i = .int .i64 t ∧ Hid (PRow w4 wr gs gs nn s) ∧ Hid (BI2 col nn old (col k) k s) ∧ Hid (BP sg.length (ednN sg mt) t s)) (fun i _ => sg.length - (intOf i).toNat)
        case atStart => exact ⟨0, _, Nat.zero_le _, rfl, HPR1, HB, bp_zero _⟩
        case round =>
          clear HPR1 HB
          obtain ⟨t, s, ht, rfl, HPR, HB, HW⟩ := hrel
          by_cases htl : t < sg.length
          · have HW1 := Lib.hid (bw_start HW.out)
            clear HW
            go_wp2_with fail
            obtain ⟨w7, rfl⟩ : ∃ x : World, x = wr := ⟨_, rfl⟩
            go_loopw [66] (fun i wr => ∃ (j : Nat) (s : List Int), j ≤ sg.length ∧ i = .int .i64 j ∧ Hid (PRow w4 wr gs gs nn s) ∧ Hid (BI2 col nn old (col k) k s) ∧ Hid (BW sg.length (ednN sg mt) t j s)) (fun i _ => sg.length - (intOf i).toNat)
            case atStart => exact ⟨0, _, Nat.zero_le _, rfl, HPR, HB, HW1⟩
            case round =>
              clear HPR HB HW1
              obtain ⟨j, s, hj, rfl, HPR, HB, HW⟩ := hrel
              by_cases hjl : j < sg.length
              · obtain ⟨ge, de, hve, -, hges, -, hce⟩ := HP4.out.at_ (k := j) (by rw [sedges_length]; exact hjl)
                injection hve with a1 a2 a3
                subst a1
                obtain ⟨p1, p2⟩ := hce j (by rw [sedges_length]; exact hjl)
                have e : (sedges sg mt sg.length)[j]'(by rw [sedges_length]; exact hjl) = sedge sg mt j := by simp [sedges]
                simp only [e] at p1 p2
                obtain ⟨a, b, hab, -, -, ha, hb⟩ := sedge_lt HI.out hjl
                have hen : ednN sg mt j = (a, b) := by rw [ha, hb]; rfl
                have HEN := Lib.hid hen
                have hlt2 := HE.out.lt j hjl
                rw [hen] at hlt2
                rw [hab] at p1 p2
                simp only at p1 p2 hlt2
                have q1 := (HPR.out.below.cell (p := ⟨ge, 2 * j, none⟩) (by have := HGS.out; show ge < gs; omega)).trans p1
                have q2 := (HPR.out.below.cell (p := ⟨ge, 2 * j + 1, none⟩) (by have := HGS.out; show ge < gs; omega)).trans p2
                rw [Nat.mul_comm] at q1 q2
                have HA := Lib.hid (HPR.out.alloc (Nat.le_refl _) (.cells #[.int .i64 a, .int .i64 b] 41))
                obtain ⟨s1, s2⟩ := HPR.out.at_ HB.out.len hlt2.1
                obtain ⟨s3, s4⟩ := HPR.out.at_ HB.out.len hlt2.2
                have hsz := HPR.out.size
                obtain ⟨t1, t2⟩ := HA.out.at_ HB.out.len hlt2.1
                obtain ⟨t3, t4⟩ := HA.out.at_ HB.out.len hlt2.2
                have hbx := heap_alloc_new wr (.cells #[.int .i64 a, .int .i64 b] 41)
                have b1 : (wr.alloc (.cells #[.int .i64 a, .int .i64 b] 41)).cell? ⟨wr.heap.size, 0, none⟩ = some (.int .i64 a) := by rw [cell_of_row _ _ _ _ _ _ hbx]; rfl
                have b2 : (wr.alloc (.cells #[.int .i64 a, .int .i64 b] 41)).cell? ⟨wr.heap.size, 1, none⟩ = some (.int .i64 b) := by rw [cell_of_row _ _ _ _ _ _ hbx]; rfl
                have T := Lib.hid (And.intro t1 (And.intro t2 (And.intro t3 (And.intro t4 (And.intro b1 b2)))))
                clear t1 t2 t3 t4 b1 b2 hbx
                have hbd1 := HB.out.bd a
                have hbd2 := HB.out.bd b
                obtain ⟨x, hx⟩ : ∃ x, gi s a = x := ⟨_, rfl⟩
                obtain ⟨y, hy⟩ : ∃ y, gi s b = y := ⟨_, rfl⟩
                rw [hx] at s1 hbd1 T
                rw [hy] at s3 hbd2 T
                have la : a < nn := hlt2.1
                have lb : b < nn := hlt2.2
                have HX := Lib.hid hx
                have HY := Lib.hid hy
                clear hce e p1 p2 hab ha hb hen a2 a3 hlt2 hx hy
                by_cases hA : x ≠ 0 ∧ y = 0
                · obtain ⟨hx0, rfl⟩ := hA
                  have hne : ¬ a = b := by rintro rfl; exact hx0 (HX.out.symm.trans HY.out)
                  have x0 : ¬ x = 0 := hx0
                  have n1x : (x != 0) = true := by rw [bne_iff_ne]; exact x0
                  have n2x : (x == 0) = false := by rw [beq_eq_false_iff_ne]; exact x0
                  have n3x : (-x != 0) = true := by rw [bne_iff_ne]; omega
                  clear hx0
                  go_wp2_with fail
                  obtain ⟨W, hW⟩ : ∃ W, wr.alloc (.cells #[.int .i64 a, .int .i64 b] 41) = W := ⟨_, rfl⟩
                  obtain ⟨bx, hbx⟩ : ∃ bx, wr.heap.size = bx := ⟨_, rfl⟩
                  rw [hW] at T HA ⊢
                  rw [hbx] at T hsz ⊢
                  obtain ⟨t1, t2, t3, t4, b1, b2⟩ := T.out
                  clear q1 q2 s1 s2 s3 s4 hW hbx T
                  go_region
                  clear t1 t2 t3 t4
                  have HA2 : Hid (PRow w4 (W.setCell ⟨gs, b, none⟩ (.int .i64 (-x))).drew gs gs nn (s.set b (-x))) := by
                    have h1 := HA.out.store (k := b) HB.out.len (Nat.le_refl _) (-x)
                    exact ⟨h1.own, h1.below.drew, h1.size⟩
                  have c1' : (W.setCell ⟨gs, b, none⟩ (.int .i64 (-x))).drew.cell? ⟨bx, 0, none⟩ = some (.int .i64 a) := (World.cell?_of_block (a := ⟨bx, 0, none⟩) (Below.heap_setCell W _ _ bx (by simp; omega))).trans b1
                  have c2' : (W.setCell ⟨gs, b, none⟩ (.int .i64 (-x))).drew.cell? ⟨bx, 1, none⟩ = some (.int .i64 b) := (World.cell?_of_block (a := ⟨bx, 1, none⟩) (Below.heap_setCell W _ _ bx (by simp; omega))).trans b2
                  clear b1 b2 HA
                  obtain ⟨W2, hW2⟩ : ∃ W2, (W.setCell ⟨gs, b, none⟩ (.int .i64 (-x))).drew = W2 := ⟨_, rfl⟩
                  rw [hW2] at HA2 c1' c2' ⊢
                  clear hW2
                  have hls : (s.set b (-x)).length = nn := by rw [List.length_set]; exact HB.out.len
                  obtain ⟨u1, -⟩ := HA2.out.at_ hls la
                  obtain ⟨u2, -⟩ := HA2.out.at_ hls lb
                  rw [gi_set (by rw [HB.out.len]; exact lb)] at u1 u2
                  rw [if_neg hne, HX.out] at u1
                  rw [if_pos rfl] at u2
                  have hst : bst (bst s a b) b a = s.set b (-x) := bst_two_A HX.out HY.out x0 (by rw [HB.out.len]; exact la) (by rw [HB.out.len]; exact lb) hne
                  have hB2 := bcol_step HE.out HBO.out hjl HB.out
                  have hB3 := bcol_step HE.out HBO.out hjl hB2.1
                  have hW3 := bw_step HE.out HB.out.len hjl HW.out
                  rw [HEN.out] at hB3 hW3
                  simp only at hB3 hW3
                  rw [hst] at hB3 hW3
                  have HB3 := Lib.hid hB3.2
                  have HW3 := Lib.hid hW3
                  have z1 : ¬ -x = 0 := by omega
                  clear hst hB2 hB3 hW3 hls
                  go_wp2_with fail
                  go_roundw
                  case rel => exact ⟨j + 1, _, by omega, by go_num, HA2, HB3, HW3⟩
                  case measure => simp [intOf]; omega
                · by_cases hB2 : y ≠ 0 ∧ x = 0
                  · obtain ⟨hy0, rfl⟩ := hB2
                    have hne : ¬ a = b := by rintro rfl; exact hy0 (HY.out.symm.trans HX.out)
                    have y0 : ¬ y = 0 := hy0
                    have n1y : (y != 0) = true := by rw [bne_iff_ne]; exact y0
                    have n2y : (y == 0) = false := by rw [beq_eq_false_iff_ne]; exact y0
                    have n3y : (-y != 0) = true := by rw [bne_iff_ne]; omega
                    clear hy0 hA
                    go_wp2_with fail
                    obtain ⟨W, hW⟩ : ∃ W, wr.alloc (.cells #[.int .i64 a, .int .i64 b] 41) = W := ⟨_, rfl⟩
                    obtain ⟨bx, hbx⟩ : ∃ bx, wr.heap.size = bx := ⟨_, rfl⟩
                    rw [hW] at T HA ⊢
                    rw [hbx] at T hsz ⊢
                    obtain ⟨t1, t2, t3, t4, b1, b2⟩ := T.out
                    clear q1 q2 s1 s2 s3 s4 hW hbx T
                    go_region
                    clear t1 t2 t3 t4
                    have HA2 : Hid (PRow w4 (W.setCell ⟨gs, a, none⟩ (.int .i64 (-y))).drew gs gs nn (s.set a (-y))) := by
                      have h1 := HA.out.store (k := a) HB.out.len (Nat.le_refl _) (-y)
                      exact ⟨h1.own, h1.below.drew, h1.size⟩
                    have c1' : (W.setCell ⟨gs, a, none⟩ (.int .i64 (-y))).drew.cell? ⟨bx, 0, none⟩ = some (.int .i64 a) := (World.cell?_of_block (a := ⟨bx, 0, none⟩) (Below.heap_setCell W _ _ bx (by simp; omega))).trans b1
                    have c2' : (W.setCell ⟨gs, a, none⟩ (.int .i64 (-y))).drew.cell? ⟨bx, 1, none⟩ = some (.int .i64 b) := (World.cell?_of_block (a := ⟨bx, 1, none⟩) (Below.heap_setCell W _ _ bx (by simp; omega))).trans b2
                    clear b1 b2 HA
                    obtain ⟨W2, hW2⟩ : ∃ W2, (W.setCell ⟨gs, a, none⟩ (.int .i64 (-y))).drew = W2 := ⟨_, rfl⟩
                    rw [hW2] at HA2 c1' c2' ⊢
                    clear hW2
                    have hls : (s.set a (-y)).length = nn := by rw [List.length_set]; exact HB.out.len
                    obtain ⟨u1, -⟩ := HA2.out.at_ hls la
                    obtain ⟨u2, -⟩ := HA2.out.at_ hls lb
                    rw [gi_set (by rw [HB.out.len]; exact la)] at u1 u2
                    rw [if_pos rfl] at u1
                    rw [if_neg (fun h => hne h.symm), HY.out] at u2
                    have hst : bst (bst s a b) b a = s.set a (-y) := bst_two_B HX.out HY.out y0 (by rw [HB.out.len]; exact la) (by rw [HB.out.len]; exact lb) hne
                    have hB2 := bcol_step HE.out HBO.out hjl HB.out
                    have hB3 := bcol_step HE.out HBO.out hjl hB2.1
                    have hW3 := bw_step HE.out HB.out.len hjl HW.out
                    rw [HEN.out] at hB3 hW3
                    simp only at hB3 hW3
                    rw [hst] at hB3 hW3
                    have HB3 := Lib.hid hB3.2
                    have HW3 := Lib.hid hW3
                    have z1 : ¬ -y = 0 := by omega
                    clear hst hB2 hB3 hW3 hls
                    go_wp2_with fail
                    go_roundw
                    case rel => exact ⟨j + 1, _, by omega, by go_num, HA2, HB3, HW3⟩
                    case measure => simp [intOf]; omega
                  · have hC : x = 0 ↔ y = 0 := by
                      constructor
                      · intro h; apply Classical.byContradiction; intro h2; exact hB2 ⟨h2, h⟩
                      · intro h; apply Classical.byContradiction; intro h2; exact hA ⟨h2, h⟩
                    clear hA hB2
                    have e1 : bst s a b = s := bst_idle (by rw [HX.out, HY.out]; exact hC)
                    have hst : bst (bst s a b) b a = s := by rw [e1]; exact bst_idle (by rw [HX.out, HY.out]; exact hC.symm)
                    clear e1
                    have hW3 := bw_step HE.out HB.out.len hjl HW.out
                    rw [HEN.out] at hW3
                    simp only at hW3
                    rw [hst] at hW3
                    have HW3 := Lib.hid hW3
                    clear hst hW3
                    by_cases hx0 : x = 0
                    · obtain rfl := hx0
                      obtain rfl : y = 0 := hC.1 rfl
                      clear hC T
                      go_wp2_with fail
                      go_roundw
                      case rel => exact ⟨j + 1, _, by omega, by go_num, HA, HB, HW3⟩
                      case measure => simp [intOf]; omega
                    · have x0 : ¬ x = 0 := hx0
                      have y0 : ¬ y = 0 := fun h => hx0 (hC.2 h)
                      have n1x : (x != 0) = true := by rw [bne_iff_ne]; exact x0
                      have n2x : (x == 0) = false := by rw [beq_eq_false_iff_ne]; exact x0
                      have n3x : (-x != 0) = true := by rw [bne_iff_ne]; omega
                      have n1y : (y != 0) = true := by rw [bne_iff_ne]; exact y0
                      have n2y : (y == 0) = false := by rw [beq_eq_false_iff_ne]; exact y0
                      have n3y : (-y != 0) = true := by rw [bne_iff_ne]; omega
                      clear hC T hx0
                      go_wp2_with fail
                      go_roundw
                      case rel => exact ⟨j + 1, _, by omega, by go_num, HA, HB, HW3⟩
                      case measure => simp [intOf]; omega
              · obtain rfl : sg.length = j := by omega
                have HW2 := Lib.hid (bw_end HW.out)
                clear HW hjl
                go_wp2_with fail
                go_roundw
                case rel => exact ⟨t + 1, s, by omega, by go_num, HPR, HB, HW2⟩
                case measure => simp [intOf]; omega
          · obtain rfl : sg.length = t := by omega
            have HBO2 := Lib.hid (bcol_end HE.out HBO.out HB.out (bp_end HW.out))
            clear HB HW htl
            go_wp2_with fail
            go_roundw
            case rel => exact ⟨k + 1, s, by omega, by go_num, HPR, HBO2⟩
            case measure => simp [intOf]; omega
      · have HBO' := Lib.hid (bo_next HBO.out h0)
        clear HBO
        go_wp2_with fail
        go_roundw
        case rel => exact ⟨k + 1, s, by omega, by go_num, HPR, HBO'⟩
        case measure => simp [intOf]; omega
    · obtain rfl : nn = k := by omega
      clear hlt hk
      go_wp2_with fail
      obtain ⟨w6, rfl⟩ : ∃ x : World, x = wr := ⟨_, rfl⟩
      go_loopw [143] (fun i wr => ∃ j : Nat, j ≤ sg.length ∧ i = .int .i64 j ∧ Hid (PRow w4 wr gs gs nn s)) (fun i _ => sg.length - (intOf i).toNat)
      case atStart => exact ⟨0, Nat.zero_le _, rfl, HPR⟩
      case round =>
        clear HPR
        obtain ⟨j, hj, rfl, HPR⟩ := hrel
        by_cases hjl : j < sg.length
        · obtain ⟨ge, de, hve, -, hges, -, hce⟩ := HP4.out.at_ (k := j) (by rw [sedges_length]; exact hjl)
          injection hve with a1 a2 a3
          subst a1
          obtain ⟨p1, p2⟩ := hce j (by rw [sedges_length]; exact hjl)
          have e : (sedges sg mt sg.length)[j]'(by rw [sedges_length]; exact hjl) = sedge sg mt j := by simp [sedges]
          simp only [e] at p1 p2
          obtain ⟨a, b, hab, -, -, ha, hb⟩ := sedge_lt HI.out hjl
          have hen : ednN sg mt j = (a, b) := by rw [ha, hb]; rfl
          have hlt2 := HE.out.lt j hjl
          have hout := HBO.out.out j hjl
          rw [hen] at hlt2 hout
          have hnz := HBO.out.nz a hlt2.1
          rw [hab] at p1 p2
          simp only at p1 p2 hlt2
          have q1 := (HPR.out.below.cell (p := ⟨ge, 2 * j, none⟩) (by have := HGS.out; show ge < gs; omega)).trans p1
          have q2 := (HPR.out.below.cell (p := ⟨ge, 2 * j + 1, none⟩) (by have := HGS.out; show ge < gs; omega)).trans p2
          rw [Nat.mul_comm] at q1 q2
          have HA := Lib.hid (HPR.out.alloc (Nat.le_refl _) (.cells #[.int .i64 a, .int .i64 b] 41))
          obtain ⟨t1, t2⟩ := HA.out.at_ HBO.out.len hlt2.1
          obtain ⟨t3, t4⟩ := HA.out.at_ HBO.out.len hlt2.2
          have hbx := heap_alloc_new wr (.cells #[.int .i64 a, .int .i64 b] 41)
          have b1 : (wr.alloc (.cells #[.int .i64 a, .int .i64 b] 41)).cell? ⟨wr.heap.size, 0, none⟩ = some (.int .i64 a) := by rw [cell_of_row _ _ _ _ _ _ hbx]; rfl
          have b2 : (wr.alloc (.cells #[.int .i64 a, .int .i64 b] 41)).cell? ⟨wr.heap.size, 1, none⟩ = some (.int .i64 b) := by rw [cell_of_row _ _ _ _ _ _ hbx]; rfl
          have T := Lib.hid (And.intro t1 (And.intro t2 (And.intro t3 (And.intro t4 (And.intro b1 b2)))))
          clear t1 t2 t3 t4 b1 b2 hbx
          obtain ⟨x, hx⟩ : ∃ x, gi s a = x := ⟨_, rfl⟩
          obtain ⟨y, hy⟩ : ∃ y, gi s b = y := ⟨_, rfl⟩
          simp only at hout
          rw [hx] at T hout hnz
          rw [hy] at T hout
          have hxy : (x == y) = false := by rw [beq_eq_false_iff_ne]; omega
          have la : a < nn := hlt2.1
          have lb : b < nn := hlt2.2
          clear hce e p1 p2 hab ha hb hen a2 a3 hlt2 hx hy hout hnz
          go_wp2_with fail
          obtain ⟨W, hW⟩ : ∃ W, wr.alloc (.cells #[.int .i64 a, .int .i64 b] 41) = W := ⟨_, rfl⟩
          obtain ⟨bx, hbx⟩ : ∃ bx, wr.heap.size = bx := ⟨_, rfl⟩
          rw [hW] at T HA ⊢
          rw [hbx] at T ⊢
          obtain ⟨t1, t2, t3, t4, b1, b2⟩ := T.out
          clear q1 q2 hW hbx T t2 t4
          go_quiet (fail)
          go_wp2_with fail
          go_roundw
          case rel => exact ⟨j + 1, by omega, by go_num, ⟨HA.out.own, below_drewN HA.out.below _, HA.out.size⟩⟩
          case measure => simp [intOf]; omega
        · obtain rfl : sg.length = j := by omega
          have HBF : Hid (Below w.heap.size w wr) := HB4.out.trans (by have h := HPR.out.below; rw [← HGS.out] at h; exact h.mono HB4.out.size)
          clear hjl hj
          go_wp2_with fail
          go_ret
          exact ⟨rfl, HBF.out⟩

theorem seifertBipartite_walk : 
    Calls Try.prog 6 #[.agg #[.slice A1 sg.length c1, .slice A2 mt.length c2, .int .i64 L]] w fun e w' => e = .returned (.bool true) ∧ Below w.heap.size w w' := by
  by_cases hg : 14 < sg.length ∨ 80 < mt.length
  · exact sbip_great A1 A2 c1 c2 sg mt L w hd hg
  · by_cases hi : IsD sg mt L
    · exact sbip_ok A1 A2 c1 c2 sg mt L w hd (by omega) (by omega) hi
    · exact sbip_no A1 A2 c1 c2 sg mt L w hd (by omega) (by omega) hi
end
end Go.Proofs.Ytaghemilihaiaaa

