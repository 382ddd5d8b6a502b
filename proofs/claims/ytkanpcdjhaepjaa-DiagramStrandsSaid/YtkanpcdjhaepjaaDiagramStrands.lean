/-
  The law DiagramStrands, walked: the call returns true and writes nothing that was there.
-/
import Derived.Test.YtkanpcdjhaepjaaStrandM
import Derived.Deep.RegionHeld3
namespace Go.Proofs.Ytkanpcdjhaepjaa
open Go.RowKit

/-- the box, the diagram and the row of the crossings' numbers -/
structure TSt (w0 w : World) (gp : Nat) (A1 A2 : Option Addr) (c1 c2 : Nat) (sg mt : List Int) (L : Int) (p : List Int) : Prop where
  c0 : w.cell? ⟨w0.heap.size, 0, none⟩ = some (.slice A1 sg.length c1)
  c1 : w.cell? ⟨w0.heap.size, 1, none⟩ = some (.slice A2 mt.length c2)
  c2 : w.cell? ⟨w0.heap.size, 2, none⟩ = some (.int .i64 L)
  rs : RI w (· < w0.heap.size) A1 sg
  rm : RI w (· < w0.heap.size) A2 mt
  pr : PRow w0 w w0.heap.size gp sg.length p
  pl : p.length = sg.length
  gb : w0.heap.size < gp

section
variable {w0 w w' : World} {gp : Nat} {A1 A2 : Option Addr} {c1 c2 : Nat} {sg mt : List Int} {L : Int} {p : List Int}
theorem TSt.db (h : TSt w0 w gp A1 A2 c1 c2 sg mt L p) : DBox w w0.heap.size A1 A2 c1 c2 sg mt L :=
  have h1 := h.pr.size
  have h2 := h.gb
  ⟨h.c0, h.c1, h.c2, by omega, h.rs.imp fun b hb => by omega, h.rm.imp fun b hb => by omega⟩
theorem TSt.below (h : TSt w0 w gp A1 A2 c1 c2 sg mt L p) (hb : Below w.heap.size w w') : TSt w0 w' gp A1 A2 c1 c2 sg mt L p := by
  have h1 := h.pr.size
  have h2 := h.gb
  have h3 := hb.size
  have h0 : w0.heap.size < w.heap.size := by omega
  exact ⟨(hb.cell (p := ⟨w0.heap.size, 0, none⟩) h0).trans h.c0, (hb.cell (p := ⟨w0.heap.size, 1, none⟩) h0).trans h.c1, (hb.cell (p := ⟨w0.heap.size, 2, none⟩) h0).trans h.c2,
    h.rs.keep fun b hlt => hb.block b (by omega), h.rm.keep fun b hlt => hb.block b (by omega),
    ⟨h.pr.own.below hb (Nat.le_refl _), h.pr.below.trans (hb.mono (by omega)), by omega⟩, h.pl, h.gb⟩
theorem TSt.drew (h : TSt w0 w gp A1 A2 c1 c2 sg mt L p) : TSt w0 w.drew gp A1 A2 c1 c2 sg mt L p := h.below (Below.refl _ _).drew
theorem TSt.store (h : TSt w0 w gp A1 A2 c1 c2 sg mt L p) (k : Nat) (y : Int) : TSt w0 (w.setCell ⟨gp, k, none⟩ (.int .i64 y)) gp A1 A2 c1 c2 sg mt L (p.set k y) := by
  have h2 := h.gb
  have hc : ∀ b, b < gp → (w.setCell ⟨gp, k, none⟩ (.int .i64 y)).heap[b]? = w.heap[b]? := fun b hb => Below.heap_setCell w _ _ b (by show b ≠ gp; omega)
  exact ⟨(World.cell?_of_block (a := ⟨w0.heap.size, 0, none⟩) (hc _ h2)).trans h.c0, (World.cell?_of_block (a := ⟨w0.heap.size, 1, none⟩) (hc _ h2)).trans h.c1, (World.cell?_of_block (a := ⟨w0.heap.size, 2, none⟩) (hc _ h2)).trans h.c2,
    h.rs.keep fun b hlt => hc b (by omega), h.rm.keep fun b hlt => hc b (by omega), h.pr.store h.pl (by omega) y, by rw [List.length_set]; exact h.pl, h.gb⟩
theorem keep24 {X : World → Prop} {a0 a1 a2 a3 a4 a5 a6 a7 : Addr} {v0 v1 v2 v3 v4 v5 v6 v7 : Value} (hX : ∀ {w w'}, X w → Below w.heap.size w w' → X w')
    (h : Hid (X w) ∧ w.cell? a0 = some v0 ∧ w.cell? a1 = some v1 ∧ w.cell? a2 = some v2 ∧ w.cell? a3 = some v3 ∧ w.cell? a4 = some v4 ∧ w.cell? a5 = some v5 ∧ w.cell? a6 = some v6 ∧ w.cell? a7 = some v7) (hb : Below w.heap.size w w') :
    Hid (X w') ∧ w'.cell? a0 = some v0 ∧ w'.cell? a1 = some v1 ∧ w'.cell? a2 = some v2 ∧ w'.cell? a3 = some v3 ∧ w'.cell? a4 = some v4 ∧ w'.cell? a5 = some v5 ∧ w'.cell? a6 = some v6 ∧ w'.cell? a7 = some v7 := by
  obtain ⟨h, h0, h1, h2, h3, h4, h5, h6, h7⟩ := h
  have hk : ∀ {a v}, w.cell? a = some v → w'.cell? a = some v := fun hc => (hb.cell (World.block_lt_of_cell? w _ hc)).trans hc
  exact ⟨hX h hb, hk h0, hk h1, hk h2, hk h3, hk h4, hk h5, hk h6, hk h7⟩
theorem outT (h : Hid (TSt w0 w gp A1 A2 c1 c2 sg mt L p)) (hd : Hid (IsD sg mt L)) {g : Nat} (hg : Hid (g < mt.length)) (ho : Hid (outB sg g = true)) :
    Calls Try.prog 17 #[.agg #[.slice A1 sg.length c1, .slice A2 mt.length c2, .int .i64 L], .int .i64 g] w fun e w' => e = .returned (.bool true) ∧ Below w.heap.size w w' := by
  rw [← ho.out]
  exact dout_yes A1 A2 c1 c2 sg mt L w (· < w.heap.size) h.out.db.rs h.out.db.rm (fun _ h => h) g hg.out hd.out
theorem oppT {x y : Nat} (w : World) (hx : Hid (x ≤ 1099511627776)) (hy : Hid (turnN x 2 = y)) :
    Calls Try.prog 16 #[.int .i64 (x : Int)] w fun e w' => e = .returned (.int .i64 (y : Int)) ∧ Below w.heap.size w w' := by
  rw [← hy.out]
  exact (opp_any x w rfl hx.out).mono fun _ _ ⟨e, hw⟩ => ⟨e, by subst hw; exact Below.refl _ _⟩
end

section
variable (A1 A2 : Option Addr) (c1 c2 : Nat) (sg mt : List Int) (L : Int) (w : World) (hd : DArg w A1 A2 sg mt L)
include hd

set_option maxHeartbeats 2000000 in
theorem strs_great (hg : 70 < sg.length ∨ 300 < mt.length) :
    Calls Try.prog 6 #[.agg #[.slice A1 sg.length c1, .slice A2 mt.length c2, .int .i64 L]] w fun e w' => e = .returned (.bool true) ∧ Below w.heap.size w w' := by
  have HD := Lib.hid (DBox.start (c1 := c1) (c2 := c2) (L := L) (· < w.heap.size) hd.rs hd.rm (fun _ h => h))
  have HG := Lib.hid hg
  clear hd hg
  go_enter Try.func6, Try.ntmps6
  go_wp2_with fail
  refine (awake_any _).mono ?_
  rintro e w1 ⟨rfl, hb1⟩
  have HD1 := Lib.hid (HD.out.below hb1)
  have k0 := HD1.out.c0
  have k1 := HD1.out.c1
  have k2 := HD1.out.c2
  have HB1 := Lib.hid (below_box (o := .cells #[.slice A1 sg.length c1, .slice A2 mt.length c2, .int .i64 L] 24) (by simpa using hb1))
  clear hb1
  go_wp2_with fail
  refine (great_yes A1 A2 c1 c2 sg mt L w1 HG.out).mono ?_
  rintro e w2 ⟨rfl, hb2⟩
  have HB2 := Lib.hid (HB1.out.trans (hb2.mono HB1.out.size))
  clear hb2 k0 k1 k2
  go_wp2_with fail
  go_ret
  exact ⟨rfl, HB2.out⟩

set_option maxHeartbeats 4000000 in
theorem strs_no (hg1 : ¬ 70 < sg.length) (hg2 : ¬ 300 < mt.length) (hno : ¬ IsD sg mt L) :
    Calls Try.prog 6 #[.agg #[.slice A1 sg.length c1, .slice A2 mt.length c2, .int .i64 L]] w fun e w' => e = .returned (.bool true) ∧ Below w.heap.size w w' := by
  have HD := Lib.hid (DBox.start (c1 := c1) (c2 := c2) (L := L) (· < w.heap.size) hd.rs hd.rm (fun _ h => h))
  have HL1 := Lib.hid hd.ls
  have HL2 := Lib.hid hd.lm
  have HG1 := Lib.hid hg1
  have HG2 := Lib.hid hg2
  have HNO := Lib.hid hno
  clear hd hg1 hg2 hno
  go_enter Try.func6, Try.ntmps6
  go_wp2_with fail
  refine (awake_any _).mono ?_
  rintro e w1 ⟨rfl, hb1⟩
  have HD1 := Lib.hid (HD.out.below hb1)
  have k0 := HD1.out.c0
  have k1 := HD1.out.c1
  have k2 := HD1.out.c2
  have HB1 := Lib.hid (below_box (o := .cells #[.slice A1 sg.length c1, .slice A2 mt.length c2, .int .i64 L] 24) (by simpa using hb1))
  clear hb1
  go_wp2_with fail
  refine (great_no A1 A2 c1 c2 sg mt L w1 HG1.out HG2.out).mono ?_
  rintro e w2 ⟨rfl, hb2⟩
  have HB2 := Lib.hid (HB1.out.trans (hb2.mono HB1.out.size))
  have HD2 := Lib.hid (HD1.out.below hb2)
  clear hb2 k0 k1 k2 HD HD1 HB1
  have k0 := HD2.out.c0
  have k1 := HD2.out.c1
  have k2 := HD2.out.c2
  go_wp2_with fail
  refine (dvalid_is (· < w2.heap.size) false HD2.out.rs HD2.out.rm (fun _ h => h) HL1.out HL2.out (decide_eq_false HNO.out)).mono ?_
  rintro e w3 ⟨rfl, hb3⟩
  have HB3 := Lib.hid (HB2.out.trans (hb3.mono HB2.out.size))
  clear hb3 k0 k1 k2
  go_wp2_with fail
  go_ret
  exact ⟨rfl, HB3.out⟩

set_option maxRecDepth 100000 in
set_option maxHeartbeats 8000000 in
theorem strs_yes (hg1 : ¬ 70 < sg.length) (hg2 : ¬ 300 < mt.length) (hyes : IsD sg mt L) :
    Calls Try.prog 6 #[.agg #[.slice A1 sg.length c1, .slice A2 mt.length c2, .int .i64 L]] w fun e w' => e = .returned (.bool true) ∧ Below w.heap.size w w' := by
  have HD := Lib.hid (DBox.start (c1 := c1) (c2 := c2) (L := L) (· < w.heap.size) hd.rs hd.rm (fun _ h => h))
  have HW1 := Lib.hid hd.rs
  have HW2 := Lib.hid hd.rm
  have HL1 := Lib.hid hd.ls
  have HL2 := Lib.hid hd.lm
  have HG1 := Lib.hid hg1
  have HG2 := Lib.hid hg2
  have HYES := Lib.hid hyes
  have hsl : sg.length ≤ 70 := by omega
  have hml : mt.length ≤ 300 := by omega
  have hmk := make_ints 22 Try.underlying22 sg.length (by omega)
  clear hd hg1 hg2 hyes
  go_enter Try.func6, Try.ntmps6
  go_wp2_with fail
  refine (awake_any _).mono ?_
  rintro e w1 ⟨rfl, hb1⟩
  have HD1 := Lib.hid (HD.out.below hb1)
  have k0 := HD1.out.c0
  have k1 := HD1.out.c1
  have k2 := HD1.out.c2
  have HB1 := Lib.hid (below_box (o := .cells #[.slice A1 sg.length c1, .slice A2 mt.length c2, .int .i64 L] 24) (by simpa using hb1))
  clear hb1
  go_wp2_with fail
  refine (great_no A1 A2 c1 c2 sg mt L w1 HG1.out HG2.out).mono ?_
  rintro e w2 ⟨rfl, hb2⟩
  have HB2 := Lib.hid (HB1.out.trans (hb2.mono HB1.out.size))
  have HD2 := Lib.hid (HD1.out.below hb2)
  clear hb2 k0 k1 k2 HD HD1 HB1
  have k0 := HD2.out.c0
  have k1 := HD2.out.c1
  have k2 := HD2.out.c2
  go_wp2_with fail
  refine (dvalid_is (· < w2.heap.size) true HD2.out.rs HD2.out.rm (fun _ h => h) HL1.out HL2.out (decide_eq_true HYES.out)).mono ?_
  rintro e w3 ⟨rfl, hb3⟩
  have HB3 := Lib.hid (HB2.out.trans (hb3.mono HB2.out.size))
  have HD3 := Lib.hid (HD2.out.below hb3)
  clear hb3 k0 k1 k2 HD2 HB2
  have hs3 : w.heap.size < w3.heap.size := HD3.out.lt
  have T0 : Hid (TSt w (w3.alloc (.cells (Array.replicate sg.length (Value.int .i64 0)) 3)) w3.heap.size A1 A2 c1 c2 sg mt L (List.replicate sg.length 0)) := by
    have hb := (Below.refl w3.heap.size w3).alloc (Nat.le_refl _) (.cells (Array.replicate sg.length (Value.int .i64 0)) 3)
    have hd := HD3.out.below hb
    have hw := HB3.out.trans (hb.mono HB3.out.size)
    have hp := OI.new w3 w.heap.size sg.length HB3.out.size (by unfold maxLen; omega)
    exact Lib.hid ⟨hd.c0, hd.c1, hd.c2, HW1.out.below hw, HW2.out.below hw, ⟨by simpa using hp, hw, by simp⟩, by simp, hs3⟩
  have k0 := HD3.out.c0
  have k1 := HD3.out.c1
  have k2 := HD3.out.c2
  go_wp2_with fail
  clear hmk k0 k1 k2 HD3 HB3
  generalize hW : w3.alloc (.cells (Array.replicate sg.length (Value.int .i64 0)) 3) = w4 at *
  clear hW
  have k0 := T0.out.c0
  have k1 := T0.out.c1
  have k2 := T0.out.c2
  have hs4 := T0.out.pr.size
  obtain ⟨gp, hgp⟩ : ∃ g, w3.heap.size = g := ⟨_, rfl⟩
  rw [hgp] at T0 hs4 ⊢
  go_wp2_with fail
  refine (graph_ok A1 A2 c1 c2 sg mt L w4 (· < w4.heap.size) T0.out.db.rs T0.out.db.rm (fun _ h => h) HYES.out).mono ?_
  rintro e w5 ⟨v5, rfl, hr5, hb5⟩
  obtain ⟨Ag, cg, rfl, hg5⟩ := hr5.reads
  have hgl : (rows (graphL mt sg.length)).length = (graphL mt sg.length).length := rows_cycs_length _
  have hgm : (graphL mt sg.length).length ≤ sg.length := graphU_length mt sg.length sg.length
  have T5 := Lib.hid (T0.out.below hb5)
  have G5 : Hid (RL w5 (gp < ·) Ag (rows (graphL mt sg.length))) := Lib.hid (hg5.imp fun b hb => by omega)
  obtain ⟨q, hq⟩ : ∃ q, (graphL mt sg.length).length = q := ⟨_, rfl⟩
  have HQ := Lib.hid hq
  rw [hgl, hq]
  rw [hq] at hgm
  clear hgl hq hr5 hg5 k0 k1 k2 hb5 hs4 T0 hs3 hgp
  go_wp2_with fail
  go_loopw [30] (fun i wr => ∃ (k : Nat) (p : List Int), k ≤ q ∧ i = .int .i64 k ∧ Hid (TSt w wr gp A1 A2 c1 c2 sg mt L p) ∧ Hid (RL wr (gp < ·) Ag (rows (graphL mt sg.length))) ∧ Hid (∀ c, c < sg.length → pn mt sg.length c < k → gi p c = pn mt sg.length c)) (fun i _ => q - (intOf i).toNat)
  case atStart => exact ⟨0, _, Nat.zero_le _, rfl, T5, G5, fun c _ h => by omega⟩
  case round =>
    clear T5 G5
    obtain ⟨k, p, hk, rfl, HT, HG, HV⟩ := hrel
    by_cases hlt : k < q
    · have hkl : k < (graphL mt sg.length).length := by have := HQ.out; omega
      obtain ⟨hrow, -⟩ := graph_row HYES.out.2.2.2.2.2.1 HYES.out.2.1 hkl
      obtain ⟨bg, og, rfl, -, hcg⟩ := HG.out.at_ (k := k) (by rw [rows_cycs_length]; exact hkl)
      obtain ⟨Ak, ck, hck, hrk, hmk⟩ := hcg k (by rw [rows_cycs_length]; exact hkl)
      rw [rows_getD hkl, hrow, ints_length] at hck
      rw [rows_getD hkl, hrow] at hrk
      rw [rows_getD hkl, hrow, ints_length] at hmk
      have HRK := Lib.hid hrk
      obtain ⟨m, hm⟩ : ∃ m, (membP mt sg.length k sg.length).length = m := ⟨_, rfl⟩
      have HM := Lib.hid hm
      have hmb : m ≤ sg.length := by rw [← hm]; exact Nat.le_trans (List.length_filter_le _ _) (by simp)
      rw [hm] at hck hmk
      clear hcg hrk hrow hm
      go_wp2_with fail
      clear hck
      go_loopw [37] (fun i wr => ∃ (j : Nat) (p : List Int), j ≤ m ∧ i = .int .i64 j ∧ Hid (TSt w wr gp A1 A2 c1 c2 sg mt L p) ∧ Hid (RL wr (gp < ·) (some ⟨bg, og, none⟩) (rows (graphL mt sg.length))) ∧ Hid (RI wr (gp < ·) Ak (ints (membP mt sg.length k sg.length))) ∧ Hid (∀ c, c < sg.length → (pn mt sg.length c < k ∨ c ∈ (membP mt sg.length k sg.length).take j) → gi p c = pn mt sg.length c)) (fun i _ => m - (intOf i).toNat)
      case atStart => exact ⟨0, p, Nat.zero_le _, rfl, HT, HG, HRK, fun c hc h => HV.out c hc (h.elim id fun h => by simp at h)⟩
      case round =>
        clear HT HG HRK HV
        obtain ⟨j, p, hj, rfl, HT, HG, HRK, HV⟩ := hrel
        by_cases hlt2 : j < m
        · have hjl : j < (membP mt sg.length k sg.length).length := by have := HM.out; omega
          obtain ⟨x, hx⟩ : ∃ x, (membP mt sg.length k sg.length)[j] = x := ⟨_, rfl⟩
          have hxm := memP_iff.1 (hx ▸ List.getElem_mem hjl)
          have hxn := hxm.1
          obtain ⟨br, or, rfl, hgb, hcr⟩ := HRK.out.at_ (k := j) (by rw [ints_length]; exact hjl)
          have k3 := hcr j (by rw [ints_length]; exact hjl)
          rw [gi_ints hjl, gN_lt hjl, hx] at k3
          obtain ⟨k4, k5⟩ := HT.out.pr.at_ HT.out.pl hxn
          have hsg := HT.out.pr.size
          have HT' := Lib.hid (HT.out.store x (k : Int))
          have hne : ∀ b, gp < b → (wr.setCell ⟨gp, x, none⟩ (.int .i64 (k : Int))).heap[b]? = wr.heap[b]? := fun b hb => Below.heap_setCell wr _ _ b (by show b ≠ gp; omega)
          have HG' := Lib.hid (HG.out.keep hne)
          have HR' := Lib.hid (HRK.out.keep hne)
          have HV' : Hid (∀ c, c < sg.length → (pn mt sg.length c < k ∨ c ∈ (membP mt sg.length k sg.length).take (j + 1)) → gi (p.set x (k : Int)) c = pn mt sg.length c) := by
            refine Lib.hid fun c hc h => ?_
            rw [gi_set (by rw [HT.out.pl]; exact hxn)]
            split
            · rename_i e
              rw [e, hxm.2]
            · refine HV.out c hc (h.imp id fun h => ?_)
              rw [List.take_succ_eq_append_getElem hjl, List.mem_append, hx] at h
              rcases h with h | h
              · exact h
              · rw [List.mem_singleton] at h
                exact absurd h ‹_›
          have q1 : decide ((x : Int) < 0) = false := decide_eq_false (by omega)
          have q2 : decide ((sg.length : Int) ≤ x) = false := decide_eq_false (by omega)
          clear hne hcr hx hxm HT HG HRK HV
          go_wp2_with fail
          go_roundw
          case rel => exact ⟨j + 1, _, by omega, by go_num, HT', HG', HR', HV'⟩
          case measure => simp [intOf]; omega
        · have HV' : Hid (∀ c, c < sg.length → pn mt sg.length c < k + 1 → gi p c = pn mt sg.length c) := by
            refine Lib.hid fun c hc h => HV.out c hc ?_
            rcases Nat.lt_or_eq_of_le (Nat.le_of_lt_succ h) with h | h
            · exact .inl h
            · refine .inr ?_
              rw [List.take_of_length_le (by rw [HM.out]; omega)]
              exact memP_iff.2 ⟨hc, h⟩
          clear HV HRK
          go_wp2_with fail
          go_roundw
          case rel => exact ⟨k + 1, _, by omega, by go_num, HT, HG, HV'⟩
          case measure => simp [intOf]; omega
    · have HV' : Hid (∀ c, c < sg.length → gi p c = pn mt sg.length c) := Lib.hid fun c hc => HV.out c hc (by have := pn_lt HYES.out.2.2.2.2.2.1 HYES.out.2.1 hc; have := HQ.out; omega)
      have k0 := HT.out.c0
      have k1 := HT.out.c1
      have k2 := HT.out.c2
      clear HV HG
      go_wp2_with fail
      refine (strands_ok A1 A2 c1 c2 sg mt L wr (· < wr.heap.size) HT.out.db.rs HT.out.db.rm (fun _ h => h) HYES.out).mono ?_
      rintro e w6 ⟨v6, rfl, hr6, hb6⟩
      obtain ⟨As, cs, rfl, hs6⟩ := hr6.reads
      have hsl6 : (rows (strandsL sg mt)).length = (strandsL sg mt).length := rows_cycs_length _
      have hsm : (strandsL sg mt).length ≤ mt.length := strandsL_le sg mt
      have T6 := Lib.hid (HT.out.below hb6)
      have G6 : Hid (RL w6 (· < w6.heap.size) As (rows (strandsL sg mt))) := Lib.hid (hs6.imp fun b hb => hb.2)
      obtain ⟨r, hr⟩ : ∃ r, (strandsL sg mt).length = r := ⟨_, rfl⟩
      have HR := Lib.hid hr
      rw [hsl6, hr]
      rw [hr] at hsm
      clear hsl6 hr hr6 hs6 k0 k1 k2 hb6 HT
      go_wp2_with fail
      have htt : tot (strandsL sg mt) ≤ 140 := by rw [strands_tot HYES.out]; omega
      go_loopw [8, 58] (fun v i wr => ∃ k : Nat, k ≤ r ∧ i = .int .i64 k ∧ v = .int .i64 (tot ((strandsL sg mt).take k)) ∧ Hid (TSt w wr gp A1 A2 c1 c2 sg mt L p) ∧ Hid (RL wr (· < wr.heap.size) As (rows (strandsL sg mt)))) (fun _ i _ => r - (intOf i).toNat)
      case atStart => exact ⟨0, Nat.zero_le _, rfl, rfl, T6, G6⟩
      case round =>
        clear T6 G6
        obtain ⟨k, hk, rfl, rfl, HT, HG⟩ := hrel
        by_cases hlt : k < r
        · have hkl : k < (strandsL sg mt).length := by have := HR.out; omega
          obtain ⟨h, hh, ho, hls, hrow⟩ := strand_at hkl
          have htk := tot_take (strandsL sg mt) hkl
          have htl := tot_take_le (strandsL sg mt) k
          have htl2 := tot_take_le (strandsL sg mt) (k + 1)
          rw [hrow, cyc_length] at htk
          obtain ⟨bg, og, rfl, -, hcg⟩ := HG.out.at_ (k := k) (by rw [rows_cycs_length]; exact hkl)
          obtain ⟨Ak, ck, hck, hrk, hmk⟩ := hcg k (by rw [rows_cycs_length]; exact hkl)
          rw [rows_getD hkl, hrow, ints_length, cyc_length] at hck
          rw [rows_getD hkl, hrow] at hrk
          have hp := per_spec (nxS_perm HYES.out.2.2.2.2.2.1 HYES.out.2.1) hh
          have hp0 := hp.1
          have hp1 := hp.2.1
          have HRK := Lib.hid hrk
          obtain ⟨m, hm⟩ : ∃ m, per (nxS mt) mt.length h = m := ⟨_, rfl⟩
          have HM := Lib.hid hm
          rw [hm] at hck htk hp0 hp1
          obtain ⟨t0, ht0⟩ : ∃ t0, tot ((strandsL sg mt).take k) = t0 := ⟨_, rfl⟩
          rw [ht0] at htk htl ⊢
          have HTK := Lib.hid htk
          have HO := Lib.hid ho
          have HLS := Lib.hid hls
          rw [htk] at htl2
          clear hcg hrk hrow hm hmk ht0 htk hp ho hls
          go_wp2_with fail
          clear hck
          go_loopw [8, 64] (fun v i wr => ∃ j : Nat, j ≤ m ∧ i = .int .i64 j ∧ v = .int .i64 ((t0 + j : Nat) : Int) ∧ Hid (TSt w wr gp A1 A2 c1 c2 sg mt L p) ∧ Hid (RL wr (· < wr.heap.size) (some ⟨bg, og, none⟩) (rows (strandsL sg mt))) ∧ Hid (RI wr (· < wr.heap.size) Ak (ints (cyc (nxS mt) mt.length h)))) (fun _ i _ => m - (intOf i).toNat)
          case atStart => exact ⟨0, Nat.zero_le _, rfl, rfl, HT, HG, HRK⟩
          case round =>
            clear HT HG HRK
            obtain ⟨j, hj, rfl, rfl, HT, HG, HRK⟩ := hrel
            by_cases hlt2 : j < m
            · have HFAC := Lib.hid (strand_facts HYES.out hh HO.out HLS.out (show j < per (nxS mt) mt.length h by rw [HM.out]; exact hlt2))
              have hjp : j < per (nxS mt) mt.length h := by rw [HM.out]; exact hlt2
              obtain ⟨i2, hi2⟩ : ∃ i2, (j + 1) % m = i2 := ⟨_, rfl⟩
              have hi2m : i2 < m := by rw [← hi2]; exact Nat.mod_lt _ hp0
              have q4 : ((j : Int) + 1).tmod (m : Int) = (i2 : Int) := by rw [← hi2]; exact Int.ofNat_tmod (j + 1) m
              obtain ⟨br, or, rfl, hbr, hcr⟩ := HRK.out.at_ (k := 0) (by rw [ints_length, cyc_length, HM.out]; exact hp0)
              have k9 := hcr j (by rw [ints_length, cyc_length]; exact hjp)
              have k4 := hcr i2 (by rw [ints_length, cyc_length, HM.out]; exact hi2m)
              have k5 := hcr 0 (by rw [ints_length, cyc_length, HM.out]; exact hp0)
              rw [cyc_cell hjp] at k9
              rw [cyc_cell (by rw [HM.out]; exact hi2m)] at k4
              rw [cyc_cell (by rw [HM.out]; exact hp0), Nat.add_zero] at k5
              have k5 : wr.cell? ⟨br, or, none⟩ = some (.int .i64 (h : Int)) := k5
              obtain ⟨g, hg⟩ : ∃ g, it (nxS mt) j h = g := ⟨_, rfl⟩
              obtain ⟨y, hy⟩ : ∃ y, it (nxS mt) i2 h = y := ⟨_, rfl⟩
              obtain ⟨x, hx⟩ : ∃ x, gn mt g = x := ⟨_, rfl⟩
              rw [hg, HM.out, hi2, hy, hx] at HFAC
              rw [hg] at k9
              rw [hy] at k4
              have HGL : Hid (g < mt.length) := Lib.hid HFAC.out.1
              have HGO : Hid (outB sg g = true) := Lib.hid HFAC.out.2.1
              have HXY : Hid (turnN x 2 = y) := Lib.hid HFAC.out.2.2.1
              have hgl := HFAC.out.1
              have hhg := HFAC.out.2.2.2.2
              obtain ⟨gn1, gn2, -, -⟩ := HYES.out.2.2.2.2.2.1.gn HFAC.out.1
              rw [hx] at gn1 gn2
              have HXL : Hid (x ≤ 1099511627776) := Lib.hid (by omega)
              obtain ⟨bm, om, rfl, -, hcm⟩ := HT.out.rm.at_ HFAC.out.1
              have k3 := hcm g HFAC.out.1
              rw [gn1] at k3
              obtain ⟨gq, hgq⟩ : ∃ gq, g / 4 = gq := ⟨_, rfl⟩
              obtain ⟨hq, hhq⟩ : ∃ hq, h / 4 = hq := ⟨_, rfl⟩
              have hml4 := HYES.out.2.1
              have hgq1 : gq < sg.length := by omega
              have hhq1 : hq < sg.length := by omega
              have k6 := (HT.out.pr.at_ HT.out.pl hgq1).1
              have k7 := (HT.out.pr.at_ HT.out.pl hhq1).1
              rw [HV'.out gq hgq1] at k6
              rw [HV'.out hq hhq1] at k7
              have hPP : pn mt sg.length gq = pn mt sg.length hq := by
                unfold pn
                rw [← hgq, ← hhq, HFAC.out.2.2.2.1]
              obtain ⟨P, hP⟩ : ∃ P, pn mt sg.length hq = P := ⟨_, rfl⟩
              rw [hPP, hP] at k6
              rw [hP] at k7
              have q1 : decide ((g : Int) < 0) = false := decide_eq_false (by omega)
              have q2 : decide ((mt.length : Int) ≤ g) = false := decide_eq_false (by omega)
              have q3 : IntKind.i64.wrap ((j : Int) + 1) = (j : Int) + 1 := IntWalk.i64_in _ (by omega)
              have q5 : ((g : Int)).tdiv 4 = (gq : Int) := by rw [← hgq]; exact Int.ofNat_tdiv g 4
              have q6 : ((h : Int)).tdiv 4 = (hq : Int) := by rw [← hhq]; exact Int.ofNat_tdiv h 4
              have q7 : ((y : Int) != (y : Int)) = false := by simp
              have q8 : ((P : Int) != (P : Int)) = false := by simp
              have z0 : ¬ (m : Int) = 0 := by omega
              have z0n : ¬ m = 0 := by omega
              have w5 : IntKind.i64.wrap (gq : Int) = (gq : Int) := IntWalk.i64_in _ (by omega)
              have w6 : IntKind.i64.wrap (hq : Int) = (hq : Int) := IntWalk.i64_in _ (by omega)
              have q5e : (g : Int) / 4 = (gq : Int) := by omega
              have q6e : (h : Int) / 4 = (hq : Int) := by omega
              have q2n : decide (mt.length ≤ g) = false := decide_eq_false (by omega)
              have z1 : (0 : Int) ≤ (i2 : Int) ∧ (i2 : Int) < (m : Int) := by omega
              have z2 : (0 : Int) ≤ (g : Int) ∧ (g : Int) < (mt.length : Int) := by omega
              have z3 : (0 : Int) ≤ (gq : Int) ∧ (gq : Int) < (sg.length : Int) := by omega
              have z4 : (0 : Int) ≤ (hq : Int) ∧ (hq : Int) < (sg.length : Int) := by omega
              have k0 := HT.out.c0
              have k1 := HT.out.c1
              have k2 := HT.out.c2
              have hgp1 := HT.out.pr.size
              have HGQ := Lib.hid hgq
              have HHQ := Lib.hid hhq
              have HI2 := Lib.hid hi2
              clear hcr hcm hPP hP hy hg hx HFAC gn1 hgq hhq hi2 hml4
              by_cases hj0 : 0 < j
              · have q9 : decide ((0 : Int) < j) = true := decide_eq_true (by omega)
                have q10 : decide ((g : Int) ≤ h) = false := decide_eq_false (by have := hhg hj0; omega)
                have q9n : decide (0 < j) = true := decide_eq_true (by omega)
                have q10n : decide (g ≤ h) = false := decide_eq_false (by have := hhg hj0; omega)
                clear hhg
                go_wp2_with fail
                go_region_held3 (fun w' => Hid (TSt w w' gp A1 (some ⟨bm, om, none⟩) c1 c2 sg mt L p) ∧ w'.cell? ⟨w.heap.size, 0, none⟩ = some (.slice A1 sg.length c1) ∧ w'.cell? ⟨w.heap.size, 1, none⟩ = some (.slice (some ⟨bm, om, none⟩) mt.length c2) ∧ w'.cell? ⟨w.heap.size, 2, none⟩ = some (.int .i64 L) ∧ w'.cell? ⟨bm, om + g, none⟩ = some (.int .i64 (x : Int)) ∧ w'.cell? ⟨br, or + i2, none⟩ = some (.int .i64 (y : Int)) ∧ w'.cell? ⟨br, or, none⟩ = some (.int .i64 (h : Int)) ∧ w'.cell? ⟨gp, gq, none⟩ = some (.int .i64 (P : Int)) ∧ w'.cell? ⟨gp, hq, none⟩ = some (.int .i64 (P : Int)))
                  (first | exact keep24 (fun h hb => TSt.below h hb) ⟨HT, k0, k1, k2, k3, k4, k5, k6, k7⟩ (Below.refl _ _).drew | exact keep24 (fun h hb => TSt.below h hb) (by assumption) hr2 | exact keep24 (fun h hb => TSt.below h hb) (by assumption) hr1)
                  (first
                    | (go_at_call 17; ((refine (outT (by first | assumption | exact And.left (by assumption)) HYES HGL HGO).mono ?_); rintro e9 wx ⟨rfl, hr1⟩))
                    | (go_at_call 16; ((refine (oppT _ HXL HXY).mono ?_); rintro e9 wy ⟨rfl, hr2⟩)))

                have hab := hr1.trans (hr2.mono hr1.size)
                have hall : Below wr.heap.size wr wy := (Below.refl wr.heap.size wr).drew.trans hab
                have hsz := hall.size
                have HT2 := Lib.hid (HT.out.below hall)
                have HG2 : Hid (RL wy (· < wy.heap.size) (some ⟨bg, og, none⟩) (rows (strandsL sg mt))) := Lib.hid ((HG.out.below hall).imp fun b hb => by omega)
                have HRK2 : Hid (RI wy (· < wy.heap.size) (some ⟨br, or, none⟩) (ints (cyc (nxS mt) mt.length h))) := Lib.hid ((HRK.out.below hall).imp fun b hb => by omega)
                have hs140 : t0 + j ≤ 139 := by omega
                clear hr1 hr2 hab hall HT HG HRK k0 k1 k2 k3 k4 k5 k6 k7
                go_wp2_with fail
                go_roundw
                case rel => exact ⟨j + 1, by omega, by go_num, by go_num, HT2, HG2, HRK2⟩
                case measure => simp [intOf]; omega
              · have q9 : decide ((0 : Int) < j) = false := decide_eq_false (by omega)
                have q9n : decide (0 < j) = false := decide_eq_false (by omega)
                clear hj0
                clear hhg
                go_wp2_with fail
                refine wp_region_held_drew (S := (fun w' => Hid (TSt w w' gp A1 (some ⟨bm, om, none⟩) c1 c2 sg mt L p) ∧ w'.cell? ⟨w.heap.size, 0, none⟩ = some (.slice A1 sg.length c1) ∧ w'.cell? ⟨w.heap.size, 1, none⟩ = some (.slice (some ⟨bm, om, none⟩) mt.length c2) ∧ w'.cell? ⟨w.heap.size, 2, none⟩ = some (.int .i64 L) ∧ w'.cell? ⟨bm, om + g, none⟩ = some (.int .i64 (x : Int)) ∧ w'.cell? ⟨br, or + i2, none⟩ = some (.int .i64 (y : Int)) ∧ w'.cell? ⟨br, or, none⟩ = some (.int .i64 (h : Int)) ∧ w'.cell? ⟨gp, gq, none⟩ = some (.int .i64 (P : Int)) ∧ w'.cell? ⟨gp, hq, none⟩ = some (.int .i64 (P : Int)))) (by kernel_rfl) ?_ (fun hHeld => ?_)
                · (try dsimp only); (first | exact keep24 (fun h hb => TSt.below h hb) ⟨HT, k0, k1, k2, k3, k4, k5, k6, k7⟩ (Below.refl _ _).drew | exact keep24 (fun h hb => TSt.below h hb) (by assumption) hr2 | exact keep24 (fun h hb => TSt.below h hb) (by assumption) hr1)
                refine wpAnyH_take (i := 0) (oi := ({ dst := some 69, op := Op.move (Operand.tmp 12), type := 3, pos := _, after := #[], guard := none })) (v := ?_) rfl (by kernel_rfl) (by kernel_rfl) (by kernel_rfl) (fun _ _ _ h => h) (Or.inl ⟨by rfl, ?_⟩) (by assumption) ?_
                rotate_left
                · ((intro w hSw; (try dsimp only at hSw); go_simp); try (with_reducible rfl))
                (try simp only [Act.put, List.setIfInBounds_toArray, List.set_cons_zero, List.set_cons_succ])
                refine wpAnyH_take (i := 1) (oi := ({ dst := some 70, op := Op.binOp BinOp.lss 3 (Operand.tmp 69) (Operand.const (Value.int IntKind.i64 0)) 3, type := 4, pos := _, after := #[{ on := 0, ground := Ground.data }], guard := none })) (v := ?_) rfl (by kernel_rfl) (by kernel_rfl) (by kernel_rfl) (fun _ _ _ h => h) (Or.inl ⟨by rfl, ?_⟩) (by assumption) ?_
                rotate_left
                · ((intro w hSw; (try dsimp only at hSw); go_simp); try (with_reducible rfl))
                (try simp only [Act.put, List.setIfInBounds_toArray, List.set_cons_zero, List.set_cons_succ])
                refine wpAnyH_take (i := 2) (oi := ({ dst := some 71, op := Op.move (Operand.tmp 70), type := 4, pos := _, after := #[{ on := 1, ground := Ground.data }], guard := none })) (v := ?_) rfl (by kernel_rfl) (by kernel_rfl) (by kernel_rfl) (fun _ _ _ h => h) (Or.inl ⟨by rfl, ?_⟩) (by assumption) ?_
                rotate_left
                · ((intro w hSw; (try dsimp only at hSw); go_simp); try (with_reducible rfl))
                (try simp only [Act.put, List.setIfInBounds_toArray, List.set_cons_zero, List.set_cons_succ])
                refine wpAnyH_take (i := 3) (oi := ({ dst := some 72, op := Op.move (Operand.tmp 12), type := 3, pos := _, after := #[{ on := 2, ground := Ground.guard }], guard := some (2, false) })) (v := ?_) rfl (by kernel_rfl) (by kernel_rfl) (by kernel_rfl) (fun _ _ _ h => h) (Or.inl ⟨by rfl, ?_⟩) (by assumption) ?_
                rotate_left
                · ((intro w hSw; (try dsimp only at hSw); go_simp); try (with_reducible rfl))
                (try simp only [Act.put, List.setIfInBounds_toArray, List.set_cons_zero, List.set_cons_succ])
                refine wpAnyH_take (i := 4) (oi := ({ dst := some 73, op := Op.fieldAddr 24 (Operand.tmp 1) 1, type := 0, pos := _, after := #[{ on := 2, ground := Ground.guard }], guard := some (2, false) })) (v := ?_) rfl (by kernel_rfl) (by kernel_rfl) (by kernel_rfl) (fun _ _ _ h => h) (Or.inl ⟨by rfl, ?_⟩) (by assumption) ?_
                rotate_left
                · ((intro w hSw; (try dsimp only at hSw); go_simp); try (with_reducible rfl))
                (try simp only [Act.put, List.setIfInBounds_toArray, List.set_cons_zero, List.set_cons_succ])
                refine wpAnyH_take (i := 5) (oi := ({ dst := some 74, op := Op.load 22 (Operand.tmp 73), type := 22, pos := _, after := #[{ on := 4, ground := Ground.data }, { on := 2, ground := Ground.guard }], guard := some (2, false) })) (v := ?_) rfl (by kernel_rfl) (by kernel_rfl) (by kernel_rfl) (fun _ _ _ h => h) (Or.inl ⟨by rfl, ?_⟩) (by assumption) ?_
                rotate_left
                · ((intro w hSw; (try dsimp only at hSw); go_simp); try (with_reducible rfl))
                (try simp only [Act.put, List.setIfInBounds_toArray, List.set_cons_zero, List.set_cons_succ])
                refine wpAnyH_take (i := 6) (oi := ({ dst := some 75, op := Op.call { callee := Callee.builtin Builtin.len, args := #[Operand.tmp 74], argTypes := #[22] }, type := 3, pos := _, after := #[{ on := 5, ground := Ground.data }, { on := 2, ground := Ground.guard }], guard := some (2, false) })) (v := ?_) rfl (by kernel_rfl) (by kernel_rfl) (by kernel_rfl) (fun _ _ _ h => h) (Or.inl ⟨by rfl, ?_⟩) (by assumption) ?_
                rotate_left
                · ((intro w hSw; (try dsimp only at hSw); go_simp); try (with_reducible rfl))
                (try simp only [Act.put, List.setIfInBounds_toArray, List.set_cons_zero, List.set_cons_succ])
                refine wpAnyH_take (i := 7) (oi := ({ dst := some 76, op := Op.binOp BinOp.geq 3 (Operand.tmp 72) (Operand.tmp 75) 3, type := 4, pos := _, after := #[{ on := 3, ground := Ground.data }, { on := 6, ground := Ground.data }, { on := 2, ground := Ground.guard }], guard := some (2, false) })) (v := ?_) rfl (by kernel_rfl) (by kernel_rfl) (by kernel_rfl) (fun _ _ _ h => h) (Or.inl ⟨by rfl, ?_⟩) (by assumption) ?_
                rotate_left
                · ((intro w hSw; (try dsimp only at hSw); go_simp); try (with_reducible rfl))
                (try simp only [Act.put, List.setIfInBounds_toArray, List.set_cons_zero, List.set_cons_succ])
                refine wpAnyH_take (i := 8) (oi := ({ dst := some 77, op := Op.pick (Operand.tmp 71) (Operand.const (Value.bool true)) (Operand.tmp 76), type := 4, pos := _, after := #[{ on := 2, ground := Ground.data }, { on := 7, ground := Ground.data }], guard := none })) (v := ?_) rfl (by kernel_rfl) (by kernel_rfl) (by kernel_rfl) (fun _ _ _ h => h) (Or.inl ⟨by rfl, ?_⟩) (by assumption) ?_
                rotate_left
                · ((intro w hSw; (try dsimp only at hSw); go_simp); try (with_reducible rfl))
                (try simp only [Act.put, List.setIfInBounds_toArray, List.set_cons_zero, List.set_cons_succ])
                refine wpAnyH_take (i := 9) (oi := ({ dst := some 78, op := Op.move (Operand.tmp 77), type := 4, pos := _, after := #[{ on := 8, ground := Ground.data }, { on := 2, ground := Ground.chain }], guard := none })) (v := ?_) rfl (by kernel_rfl) (by kernel_rfl) (by kernel_rfl) (fun _ _ _ h => h) (Or.inl ⟨by rfl, ?_⟩) (by assumption) ?_
                rotate_left
                · ((intro w hSw; (try dsimp only at hSw); go_simp); try (with_reducible rfl))
                (try simp only [Act.put, List.setIfInBounds_toArray, List.set_cons_zero, List.set_cons_succ])
                refine wpAnyH_take (i := 10) (oi := ({ dst := some 79, op := Op.load 24 (Operand.tmp 1), type := 24, pos := _, after := #[{ on := 9, ground := Ground.guard }], guard := some (9, false) })) (v := ?_) rfl (by kernel_rfl) (by kernel_rfl) (by kernel_rfl) (fun _ _ _ h => h) (Or.inl ⟨by rfl, ?_⟩) (by assumption) ?_
                rotate_left
                · ((intro w hSw; (try dsimp only at hSw); go_simp); try (with_reducible rfl))
                (try simp only [Act.put, List.setIfInBounds_toArray, List.set_cons_zero, List.set_cons_succ])
                refine wpAnyH_take (i := 11) (oi := ({ dst := some 80, op := Op.move (Operand.tmp 12), type := 3, pos := _, after := #[{ on := 9, ground := Ground.guard }], guard := some (9, false) })) (v := ?_) rfl (by kernel_rfl) (by kernel_rfl) (by kernel_rfl) (fun _ _ _ h => h) (Or.inl ⟨by rfl, ?_⟩) (by assumption) ?_
                rotate_left
                · ((intro w hSw; (try dsimp only at hSw); go_simp); try (with_reducible rfl))
                (try simp only [Act.put, List.setIfInBounds_toArray, List.set_cons_zero, List.set_cons_succ])
                refine wpAnyH_ready (rs := [12]) (by kernel_rfl) (by simp) ?_
                refine AllReadyH.cons (o := ({ dst := some 81, op := Op.call { callee := Callee.value (Operand.func 17), args := #[Operand.tmp 79, Operand.tmp 80], argTypes := #[24, 3] }, type := 4, pos := _, after := #[{ on := 10, ground := Ground.data }, { on := 11, ground := Ground.data }, { on := 9, ground := Ground.chain }, { on := 9, ground := Ground.guard }], guard := some (9, false) })) rfl (fun K hK => ?_) AllReadyH.nil
                go_simp
                (go_at_call 17; ((refine (outT (by first | assumption | exact And.left (by assumption)) HYES HGL HGO).mono ?_); rintro e9 wx ⟨rfl, hr1⟩))
                refine hK.out _ _ ?_ (fun hHeld => ?_)
                · (try dsimp only); (first | exact keep24 (fun h hb => TSt.below h hb) ⟨HT, k0, k1, k2, k3, k4, k5, k6, k7⟩ (Below.refl _ _).drew | exact keep24 (fun h hb => TSt.below h hb) (by assumption) hr2 | exact keep24 (fun h hb => TSt.below h hb) (by assumption) hr1)
                clear hK K
                (try simp only [Act.put, List.setIfInBounds_toArray, List.set_cons_zero, List.set_cons_succ])
                refine wpAnyH_take (i := 13) (oi := ({ dst := some 82, op := Op.unOp UnOp.not 4 (Operand.tmp 81), type := 4, pos := _, after := #[{ on := 12, ground := Ground.data }, { on := 9, ground := Ground.guard }], guard := some (9, false) })) (v := ?_) rfl (by kernel_rfl) (by kernel_rfl) (by kernel_rfl) (fun _ _ _ h => h) (Or.inl ⟨by rfl, ?_⟩) (by assumption) ?_
                rotate_left
                · ((intro w hSw; (try dsimp only at hSw); go_simp); try (with_reducible rfl))
                (try simp only [Act.put, List.setIfInBounds_toArray, List.set_cons_zero, List.set_cons_succ])
                refine wpAnyH_take (i := 14) (oi := ({ dst := some 83, op := Op.pick (Operand.tmp 78) (Operand.const (Value.bool true)) (Operand.tmp 82), type := 4, pos := _, after := #[{ on := 9, ground := Ground.data }, { on := 13, ground := Ground.data }], guard := none })) (v := ?_) rfl (by kernel_rfl) (by kernel_rfl) (by kernel_rfl) (fun _ _ _ h => h) (Or.inl ⟨by rfl, ?_⟩) (by assumption) ?_
                rotate_left
                · ((intro w hSw; (try dsimp only at hSw); go_simp); try (with_reducible rfl))
                (try simp only [Act.put, List.setIfInBounds_toArray, List.set_cons_zero, List.set_cons_succ])
                refine wpAnyH_take (i := 15) (oi := ({ dst := some 84, op := Op.move (Operand.tmp 83), type := 4, pos := _, after := #[{ on := 14, ground := Ground.data }, { on := 12, ground := Ground.chain }], guard := none })) (v := ?_) rfl (by kernel_rfl) (by kernel_rfl) (by kernel_rfl) (fun _ _ _ h => h) (Or.inl ⟨by rfl, ?_⟩) (by assumption) ?_
                rotate_left
                · ((intro w hSw; (try dsimp only at hSw); go_simp); try (with_reducible rfl))
                (try simp only [Act.put, List.setIfInBounds_toArray, List.set_cons_zero, List.set_cons_succ])
                refine wpAnyH_take (i := 16) (oi := ({ dst := some 85, op := Op.fieldAddr 24 (Operand.tmp 1) 1, type := 0, pos := _, after := #[{ on := 15, ground := Ground.guard }], guard := some (15, false) })) (v := ?_) rfl (by kernel_rfl) (by kernel_rfl) (by kernel_rfl) (fun _ _ _ h => h) (Or.inl ⟨by rfl, ?_⟩) (by assumption) ?_
                rotate_left
                · ((intro w hSw; (try dsimp only at hSw); go_simp); try (with_reducible rfl))
                (try simp only [Act.put, List.setIfInBounds_toArray, List.set_cons_zero, List.set_cons_succ])
                refine wpAnyH_take (i := 17) (oi := ({ dst := some 86, op := Op.load 22 (Operand.tmp 85), type := 22, pos := _, after := #[{ on := 16, ground := Ground.data }, { on := 15, ground := Ground.guard }], guard := some (15, false) })) (v := ?_) rfl (by kernel_rfl) (by kernel_rfl) (by kernel_rfl) (fun _ _ _ h => h) (Or.inl ⟨by rfl, ?_⟩) (by assumption) ?_
                rotate_left
                · ((intro w hSw; (try dsimp only at hSw); go_simp); try (with_reducible rfl))
                (try simp only [Act.put, List.setIfInBounds_toArray, List.set_cons_zero, List.set_cons_succ])
                refine wpAnyH_take (i := 18) (oi := ({ dst := some 87, op := Op.move (Operand.tmp 12), type := 3, pos := _, after := #[{ on := 15, ground := Ground.guard }], guard := some (15, false) })) (v := ?_) rfl (by kernel_rfl) (by kernel_rfl) (by kernel_rfl) (fun _ _ _ h => h) (Or.inl ⟨by rfl, ?_⟩) (by assumption) ?_
                rotate_left
                · ((intro w hSw; (try dsimp only at hSw); go_simp); try (with_reducible rfl))
                (try simp only [Act.put, List.setIfInBounds_toArray, List.set_cons_zero, List.set_cons_succ])
                refine wpAnyH_take (i := 19) (oi := ({ dst := some 88, op := Op.indexAddr 22 (Operand.tmp 86) (Operand.tmp 87), type := 0, pos := _, after := #[{ on := 17, ground := Ground.data }, { on := 18, ground := Ground.data }, { on := 15, ground := Ground.guard }], guard := some (15, false) })) (v := ?_) rfl (by kernel_rfl) (by kernel_rfl) (by kernel_rfl) (fun _ _ _ h => h) (Or.inl ⟨by rfl, ?_⟩) (by assumption) ?_
                rotate_left
                · ((intro w hSw; (try dsimp only at hSw); go_simp); try (with_reducible rfl))
                (try simp only [Act.put, List.setIfInBounds_toArray, List.set_cons_zero, List.set_cons_succ])
                refine wpAnyH_take (i := 20) (oi := ({ dst := some 89, op := Op.load 3 (Operand.tmp 88), type := 3, pos := _, after := #[{ on := 19, ground := Ground.data }, { on := 15, ground := Ground.guard }], guard := some (15, false) })) (v := ?_) rfl (by kernel_rfl) (by kernel_rfl) (by kernel_rfl) (fun _ _ _ h => h) (Or.inl ⟨by rfl, ?_⟩) (by assumption) ?_
                rotate_left
                · ((intro w hSw; (try dsimp only at hSw); go_simp); try (with_reducible rfl))
                (try simp only [Act.put, List.setIfInBounds_toArray, List.set_cons_zero, List.set_cons_succ])
                refine wpAnyH_take (i := 22) (oi := ({ dst := some 91, op := Op.move (Operand.tmp 10), type := 22, pos := _, after := #[{ on := 15, ground := Ground.guard }], guard := some (15, false) })) (v := ?_) rfl (by kernel_rfl) (by kernel_rfl) (by kernel_rfl) (fun _ _ _ h => h) (Or.inl ⟨by rfl, ?_⟩) (by assumption) ?_
                rotate_left
                · ((intro w hSw; (try dsimp only at hSw); go_simp); try (with_reducible rfl))
                (try simp only [Act.put, List.setIfInBounds_toArray, List.set_cons_zero, List.set_cons_succ])
                refine wpAnyH_take (i := 23) (oi := ({ dst := some 92, op := Op.move (Operand.tmp 11), type := 3, pos := _, after := #[{ on := 15, ground := Ground.guard }], guard := some (15, false) })) (v := ?_) rfl (by kernel_rfl) (by kernel_rfl) (by kernel_rfl) (fun _ _ _ h => h) (Or.inl ⟨by rfl, ?_⟩) (by assumption) ?_
                rotate_left
                · ((intro w hSw; (try dsimp only at hSw); go_simp); try (with_reducible rfl))
                (try simp only [Act.put, List.setIfInBounds_toArray, List.set_cons_zero, List.set_cons_succ])
                refine wpAnyH_take (i := 24) (oi := ({ dst := some 93, op := Op.binOp BinOp.add 3 (Operand.tmp 92) (Operand.const (Value.int IntKind.i64 1)) 3, type := 3, pos := _, after := #[{ on := 23, ground := Ground.data }, { on := 15, ground := Ground.guard }], guard := some (15, false) })) (v := ?_) rfl (by kernel_rfl) (by kernel_rfl) (by kernel_rfl) (fun _ _ _ h => h) (Or.inl ⟨by rfl, ?_⟩) (by assumption) ?_
                rotate_left
                · ((intro w hSw; (try dsimp only at hSw); go_simp); try (with_reducible rfl))
                (try simp only [Act.put, List.setIfInBounds_toArray, List.set_cons_zero, List.set_cons_succ])
                refine wpAnyH_take (i := 25) (oi := ({ dst := some 94, op := Op.move (Operand.tmp 10), type := 22, pos := _, after := #[{ on := 15, ground := Ground.guard }], guard := some (15, false) })) (v := ?_) rfl (by kernel_rfl) (by kernel_rfl) (by kernel_rfl) (fun _ _ _ h => h) (Or.inl ⟨by rfl, ?_⟩) (by assumption) ?_
                rotate_left
                · ((intro w hSw; (try dsimp only at hSw); go_simp); try (with_reducible rfl))
                (try simp only [Act.put, List.setIfInBounds_toArray, List.set_cons_zero, List.set_cons_succ])
                refine wpAnyH_take (i := 26) (oi := ({ dst := some 95, op := Op.call { callee := Callee.builtin Builtin.len, args := #[Operand.tmp 94], argTypes := #[22] }, type := 3, pos := _, after := #[{ on := 25, ground := Ground.data }, { on := 15, ground := Ground.guard }], guard := some (15, false) })) (v := ?_) rfl (by kernel_rfl) (by kernel_rfl) (by kernel_rfl) (fun _ _ _ h => h) (Or.inl ⟨by rfl, ?_⟩) (by assumption) ?_
                rotate_left
                · ((intro w hSw; (try dsimp only at hSw); go_simp); try (with_reducible rfl))
                (try simp only [Act.put, List.setIfInBounds_toArray, List.set_cons_zero, List.set_cons_succ])
                refine wpAnyH_take (i := 27) (oi := ({ dst := some 96, op := Op.binOp BinOp.rem 3 (Operand.tmp 93) (Operand.tmp 95) 3, type := 3, pos := _, after := #[{ on := 24, ground := Ground.data }, { on := 26, ground := Ground.data }, { on := 15, ground := Ground.guard }], guard := some (15, false) })) (v := ?_) rfl (by kernel_rfl) (by kernel_rfl) (by kernel_rfl) (fun _ _ _ h => h) (Or.inl ⟨by rfl, ?_⟩) (by assumption) ?_
                rotate_left
                · ((intro w hSw; (try dsimp only at hSw); go_simp); try (with_reducible rfl))
                (try simp only [Act.put, List.setIfInBounds_toArray, List.set_cons_zero, List.set_cons_succ])
                refine wpAnyH_take (i := 28) (oi := ({ dst := some 97, op := Op.indexAddr 22 (Operand.tmp 91) (Operand.tmp 96), type := 0, pos := _, after := #[{ on := 22, ground := Ground.data }, { on := 27, ground := Ground.data }, { on := 15, ground := Ground.guard }], guard := some (15, false) })) (v := ?_) rfl (by kernel_rfl) (by kernel_rfl) (by kernel_rfl) (fun _ _ _ h => h) (Or.inl ⟨by rfl, ?_⟩) (by assumption) ?_
                rotate_left
                · ((intro w hSw; (try dsimp only at hSw); go_simp); try (with_reducible rfl))
                (try simp only [Act.put, List.setIfInBounds_toArray, List.set_cons_zero, List.set_cons_succ])
                refine wpAnyH_take (i := 29) (oi := ({ dst := some 98, op := Op.load 3 (Operand.tmp 97), type := 3, pos := _, after := #[{ on := 28, ground := Ground.data }, { on := 15, ground := Ground.guard }], guard := some (15, false) })) (v := ?_) rfl (by kernel_rfl) (by kernel_rfl) (by kernel_rfl) (fun _ _ _ h => h) (Or.inl ⟨by rfl, ?_⟩) (by assumption) ?_
                rotate_left
                · ((intro w hSw; (try dsimp only at hSw); go_simp); try (with_reducible rfl))
                (try simp only [Act.put, List.setIfInBounds_toArray, List.set_cons_zero, List.set_cons_succ])
                refine wpAnyH_ready (rs := [21]) (by kernel_rfl) (by simp) ?_
                refine AllReadyH.cons (o := ({ dst := some 90, op := Op.call { callee := Callee.value (Operand.func 16), args := #[Operand.tmp 89], argTypes := #[3] }, type := 3, pos := _, after := #[{ on := 20, ground := Ground.data }, { on := 15, ground := Ground.chain }, { on := 15, ground := Ground.guard }], guard := some (15, false) })) rfl (fun K hK => ?_) AllReadyH.nil
                go_simp
                (go_at_call 16; ((refine (oppT _ HXL HXY).mono ?_); rintro e9 wy ⟨rfl, hr2⟩))
                refine hK.out _ _ ?_ (fun hHeld => ?_)
                · (try dsimp only); (first | exact keep24 (fun h hb => TSt.below h hb) ⟨HT, k0, k1, k2, k3, k4, k5, k6, k7⟩ (Below.refl _ _).drew | exact keep24 (fun h hb => TSt.below h hb) (by assumption) hr2 | exact keep24 (fun h hb => TSt.below h hb) (by assumption) hr1)
                clear hK K
                (try simp only [Act.put, List.setIfInBounds_toArray, List.set_cons_zero, List.set_cons_succ])
                refine wpAnyH_take (i := 30) (oi := ({ dst := some 99, op := Op.binOp BinOp.neq 3 (Operand.tmp 90) (Operand.tmp 98) 3, type := 4, pos := _, after := #[{ on := 21, ground := Ground.data }, { on := 29, ground := Ground.data }, { on := 15, ground := Ground.guard }], guard := some (15, false) })) (v := ?_) rfl (by kernel_rfl) (by kernel_rfl) (by kernel_rfl) (fun _ _ _ h => h) (Or.inl ⟨by rfl, ?_⟩) (by assumption) ?_
                rotate_left
                · ((intro w hSw; (try dsimp only at hSw); go_simp); try (with_reducible rfl))
                (try simp only [Act.put, List.setIfInBounds_toArray, List.set_cons_zero, List.set_cons_succ])
                refine wpAnyH_take (i := 31) (oi := ({ dst := some 100, op := Op.pick (Operand.tmp 84) (Operand.const (Value.bool true)) (Operand.tmp 99), type := 4, pos := _, after := #[{ on := 15, ground := Ground.data }, { on := 30, ground := Ground.data }], guard := none })) (v := ?_) rfl (by kernel_rfl) (by kernel_rfl) (by kernel_rfl) (fun _ _ _ h => h) (Or.inl ⟨by rfl, ?_⟩) (by assumption) ?_
                rotate_left
                · ((intro w hSw; (try dsimp only at hSw); go_simp); try (with_reducible rfl))
                (try simp only [Act.put, List.setIfInBounds_toArray, List.set_cons_zero, List.set_cons_succ])
                refine wpAnyH_take (i := 32) (oi := ({ dst := some 101, op := Op.move (Operand.tmp 100), type := 4, pos := _, after := #[{ on := 31, ground := Ground.data }, { on := 21, ground := Ground.chain }], guard := none })) (v := ?_) rfl (by kernel_rfl) (by kernel_rfl) (by kernel_rfl) (fun _ _ _ h => h) (Or.inl ⟨by rfl, ?_⟩) (by assumption) ?_
                rotate_left
                · ((intro w hSw; (try dsimp only at hSw); go_simp); try (with_reducible rfl))
                (try simp only [Act.put, List.setIfInBounds_toArray, List.set_cons_zero, List.set_cons_succ])
                refine wpAnyH_take (i := 33) (oi := ({ dst := some 102, op := Op.move (Operand.tmp 3), type := 22, pos := _, after := #[{ on := 32, ground := Ground.guard }], guard := some (32, false) })) (v := ?_) rfl (by kernel_rfl) (by kernel_rfl) (by kernel_rfl) (fun _ _ _ h => h) (Or.inl ⟨by rfl, ?_⟩) (by assumption) ?_
                rotate_left
                · ((intro w hSw; (try dsimp only at hSw); go_simp); try (with_reducible rfl))
                (try simp only [Act.put, List.setIfInBounds_toArray, List.set_cons_zero, List.set_cons_succ])
                refine wpAnyH_take (i := 34) (oi := ({ dst := some 103, op := Op.move (Operand.tmp 12), type := 3, pos := _, after := #[{ on := 32, ground := Ground.guard }], guard := some (32, false) })) (v := ?_) rfl (by kernel_rfl) (by kernel_rfl) (by kernel_rfl) (fun _ _ _ h => h) (Or.inl ⟨by rfl, ?_⟩) (by assumption) ?_
                rotate_left
                · ((intro w hSw; (try dsimp only at hSw); go_simp); try (with_reducible rfl))
                (try simp only [Act.put, List.setIfInBounds_toArray, List.set_cons_zero, List.set_cons_succ])
                refine wpAnyH_take (i := 35) (oi := ({ dst := some 104, op := Op.binOp BinOp.quo 3 (Operand.tmp 103) (Operand.const (Value.int IntKind.i64 4)) 3, type := 3, pos := _, after := #[{ on := 34, ground := Ground.data }, { on := 32, ground := Ground.guard }], guard := some (32, false) })) (v := ?_) rfl (by kernel_rfl) (by kernel_rfl) (by kernel_rfl) (fun _ _ _ h => h) (Or.inl ⟨by rfl, ?_⟩) (by assumption) ?_
                rotate_left
                · ((intro w hSw; (try dsimp only at hSw); go_simp); try (with_reducible rfl))
                (try simp only [Act.put, List.setIfInBounds_toArray, List.set_cons_zero, List.set_cons_succ])
                refine wpAnyH_take (i := 36) (oi := ({ dst := some 105, op := Op.indexAddr 22 (Operand.tmp 102) (Operand.tmp 104), type := 0, pos := _, after := #[{ on := 33, ground := Ground.data }, { on := 35, ground := Ground.data }, { on := 32, ground := Ground.guard }], guard := some (32, false) })) (v := ?_) rfl (by kernel_rfl) (by kernel_rfl) (by kernel_rfl) (fun _ _ _ h => h) (Or.inl ⟨by rfl, ?_⟩) (by assumption) ?_
                rotate_left
                · ((intro w hSw; (try dsimp only at hSw); go_simp); try (with_reducible rfl))
                (try simp only [Act.put, List.setIfInBounds_toArray, List.set_cons_zero, List.set_cons_succ])
                refine wpAnyH_take (i := 37) (oi := ({ dst := some 106, op := Op.load 3 (Operand.tmp 105), type := 3, pos := _, after := #[{ on := 36, ground := Ground.data }, { on := 32, ground := Ground.guard }], guard := some (32, false) })) (v := ?_) rfl (by kernel_rfl) (by kernel_rfl) (by kernel_rfl) (fun _ _ _ h => h) (Or.inl ⟨by rfl, ?_⟩) (by assumption) ?_
                rotate_left
                · ((intro w hSw; (try dsimp only at hSw); go_simp); try (with_reducible rfl))
                (try simp only [Act.put, List.setIfInBounds_toArray, List.set_cons_zero, List.set_cons_succ])
                refine wpAnyH_take (i := 38) (oi := ({ dst := some 107, op := Op.move (Operand.tmp 3), type := 22, pos := _, after := #[{ on := 32, ground := Ground.guard }], guard := some (32, false) })) (v := ?_) rfl (by kernel_rfl) (by kernel_rfl) (by kernel_rfl) (fun _ _ _ h => h) (Or.inl ⟨by rfl, ?_⟩) (by assumption) ?_
                rotate_left
                · ((intro w hSw; (try dsimp only at hSw); go_simp); try (with_reducible rfl))
                (try simp only [Act.put, List.setIfInBounds_toArray, List.set_cons_zero, List.set_cons_succ])
                refine wpAnyH_take (i := 39) (oi := ({ dst := some 108, op := Op.move (Operand.tmp 10), type := 22, pos := _, after := #[{ on := 32, ground := Ground.guard }], guard := some (32, false) })) (v := ?_) rfl (by kernel_rfl) (by kernel_rfl) (by kernel_rfl) (fun _ _ _ h => h) (Or.inl ⟨by rfl, ?_⟩) (by assumption) ?_
                rotate_left
                · ((intro w hSw; (try dsimp only at hSw); go_simp); try (with_reducible rfl))
                (try simp only [Act.put, List.setIfInBounds_toArray, List.set_cons_zero, List.set_cons_succ])
                refine wpAnyH_take (i := 40) (oi := ({ dst := some 109, op := Op.indexAddr 22 (Operand.tmp 108) (Operand.const (Value.int IntKind.i64 0)), type := 0, pos := _, after := #[{ on := 39, ground := Ground.data }, { on := 32, ground := Ground.guard }], guard := some (32, false) })) (v := ?_) rfl (by kernel_rfl) (by kernel_rfl) (by kernel_rfl) (fun _ _ _ h => h) (Or.inl ⟨by rfl, ?_⟩) (by assumption) ?_
                rotate_left
                · ((intro w hSw; (try dsimp only at hSw); go_simp); try (with_reducible rfl))
                (try simp only [Act.put, List.setIfInBounds_toArray, List.set_cons_zero, List.set_cons_succ])
                refine wpAnyH_take (i := 41) (oi := ({ dst := some 110, op := Op.load 3 (Operand.tmp 109), type := 3, pos := _, after := #[{ on := 40, ground := Ground.data }, { on := 32, ground := Ground.guard }], guard := some (32, false) })) (v := ?_) rfl (by kernel_rfl) (by kernel_rfl) (by kernel_rfl) (fun _ _ _ h => h) (Or.inl ⟨by rfl, ?_⟩) (by assumption) ?_
                rotate_left
                · ((intro w hSw; (try dsimp only at hSw); go_simp); try (with_reducible rfl))
                (try simp only [Act.put, List.setIfInBounds_toArray, List.set_cons_zero, List.set_cons_succ])
                refine wpAnyH_take (i := 42) (oi := ({ dst := some 111, op := Op.binOp BinOp.quo 3 (Operand.tmp 110) (Operand.const (Value.int IntKind.i64 4)) 3, type := 3, pos := _, after := #[{ on := 41, ground := Ground.data }, { on := 32, ground := Ground.guard }], guard := some (32, false) })) (v := ?_) rfl (by kernel_rfl) (by kernel_rfl) (by kernel_rfl) (fun _ _ _ h => h) (Or.inl ⟨by rfl, ?_⟩) (by assumption) ?_
                rotate_left
                · ((intro w hSw; (try dsimp only at hSw); go_simp); try (with_reducible rfl))
                (try simp only [Act.put, List.setIfInBounds_toArray, List.set_cons_zero, List.set_cons_succ])
                refine wpAnyH_take (i := 43) (oi := ({ dst := some 112, op := Op.indexAddr 22 (Operand.tmp 107) (Operand.tmp 111), type := 0, pos := _, after := #[{ on := 38, ground := Ground.data }, { on := 42, ground := Ground.data }, { on := 32, ground := Ground.guard }], guard := some (32, false) })) (v := ?_) rfl (by kernel_rfl) (by kernel_rfl) (by kernel_rfl) (fun _ _ _ h => h) (Or.inl ⟨by rfl, ?_⟩) (by assumption) ?_
                rotate_left
                · ((intro w hSw; (try dsimp only at hSw); go_simp); try (with_reducible rfl))
                (try simp only [Act.put, List.setIfInBounds_toArray, List.set_cons_zero, List.set_cons_succ])
                refine wpAnyH_take (i := 44) (oi := ({ dst := some 113, op := Op.load 3 (Operand.tmp 112), type := 3, pos := _, after := #[{ on := 43, ground := Ground.data }, { on := 32, ground := Ground.guard }], guard := some (32, false) })) (v := ?_) rfl (by kernel_rfl) (by kernel_rfl) (by kernel_rfl) (fun _ _ _ h => h) (Or.inl ⟨by rfl, ?_⟩) (by assumption) ?_
                rotate_left
                · ((intro w hSw; (try dsimp only at hSw); go_simp); try (with_reducible rfl))
                (try simp only [Act.put, List.setIfInBounds_toArray, List.set_cons_zero, List.set_cons_succ])
                refine wpAnyH_take (i := 45) (oi := ({ dst := some 114, op := Op.binOp BinOp.neq 3 (Operand.tmp 106) (Operand.tmp 113) 3, type := 4, pos := _, after := #[{ on := 37, ground := Ground.data }, { on := 44, ground := Ground.data }, { on := 32, ground := Ground.guard }], guard := some (32, false) })) (v := ?_) rfl (by kernel_rfl) (by kernel_rfl) (by kernel_rfl) (fun _ _ _ h => h) (Or.inl ⟨by rfl, ?_⟩) (by assumption) ?_
                rotate_left
                · ((intro w hSw; (try dsimp only at hSw); go_simp); try (with_reducible rfl))
                (try simp only [Act.put, List.setIfInBounds_toArray, List.set_cons_zero, List.set_cons_succ])
                refine wpAnyH_take (i := 46) (oi := ({ dst := some 115, op := Op.pick (Operand.tmp 101) (Operand.const (Value.bool true)) (Operand.tmp 114), type := 4, pos := _, after := #[{ on := 32, ground := Ground.data }, { on := 45, ground := Ground.data }], guard := none })) (v := ?_) rfl (by kernel_rfl) (by kernel_rfl) (by kernel_rfl) (fun _ _ _ h => h) (Or.inl ⟨by rfl, ?_⟩) (by assumption) ?_
                rotate_left
                · ((intro w hSw; (try dsimp only at hSw); go_simp); try (with_reducible rfl))
                (try simp only [Act.put, List.setIfInBounds_toArray, List.set_cons_zero, List.set_cons_succ])
                refine wpAnyH_take (i := 47) (oi := ({ dst := some 116, op := Op.move (Operand.tmp 115), type := 4, pos := _, after := #[{ on := 46, ground := Ground.data }, { on := 32, ground := Ground.chain }], guard := none })) (v := ?_) rfl (by kernel_rfl) (by kernel_rfl) (by kernel_rfl) (fun _ _ _ h => h) (Or.inl ⟨by rfl, ?_⟩) (by assumption) ?_
                rotate_left
                · ((intro w hSw; (try dsimp only at hSw); go_simp); try (with_reducible rfl))
                (try simp only [Act.put, List.setIfInBounds_toArray, List.set_cons_zero, List.set_cons_succ])
                refine wpAnyH_take (i := 48) (oi := ({ dst := some 117, op := Op.move (Operand.tmp 11), type := 3, pos := _, after := #[{ on := 47, ground := Ground.guard }], guard := some (47, false) })) (v := ?_) rfl (by kernel_rfl) (by kernel_rfl) (by kernel_rfl) (fun _ _ _ h => h) (Or.inl ⟨by rfl, ?_⟩) (by assumption) ?_
                rotate_left
                · ((intro w hSw; (try dsimp only at hSw); go_simp); try (with_reducible rfl))
                (try simp only [Act.put, List.setIfInBounds_toArray, List.set_cons_zero, List.set_cons_succ])
                refine wpAnyH_take (i := 49) (oi := ({ dst := some 118, op := Op.binOp BinOp.gtr 3 (Operand.tmp 117) (Operand.const (Value.int IntKind.i64 0)) 3, type := 4, pos := _, after := #[{ on := 48, ground := Ground.data }, { on := 47, ground := Ground.guard }], guard := some (47, false) })) (v := ?_) rfl (by kernel_rfl) (by kernel_rfl) (by kernel_rfl) (fun _ _ _ h => h) (Or.inl ⟨by rfl, ?_⟩) (by assumption) ?_
                rotate_left
                · ((intro w hSw; (try dsimp only at hSw); go_simp); try (with_reducible rfl))
                (try simp only [Act.put, List.setIfInBounds_toArray, List.set_cons_zero, List.set_cons_succ])
                refine wpAnyH_take (i := 50) (oi := ({ dst := some 119, op := Op.move (Operand.tmp 118), type := 4, pos := _, after := #[{ on := 49, ground := Ground.data }, { on := 47, ground := Ground.chain }, { on := 47, ground := Ground.guard }], guard := some (47, false) })) (v := ?_) rfl (by kernel_rfl) (by kernel_rfl) (by kernel_rfl) (fun _ _ _ h => h) (Or.inl ⟨by rfl, ?_⟩) (by assumption) ?_
                rotate_left
                · ((intro w hSw; (try dsimp only at hSw); go_simp); try (with_reducible rfl))
                (try simp only [Act.put, List.setIfInBounds_toArray, List.set_cons_zero, List.set_cons_succ])
                refine wpAnyH_take (i := 51) (oi := ({ dst := some 120, op := Op.move (Operand.tmp 12), type := 3, pos := _, after := #[{ on := 50, ground := Ground.guard }], guard := some (50, true) })) (v := _) rfl (by kernel_rfl) (by kernel_rfl) (by kernel_rfl) (fun _ _ _ h => h) (Or.inr ⟨by rfl, rfl⟩) (by assumption) ?_
                (try simp only [Act.put, List.setIfInBounds_toArray, List.set_cons_zero, List.set_cons_succ])
                refine wpAnyH_take (i := 52) (oi := ({ dst := some 121, op := Op.move (Operand.tmp 10), type := 22, pos := _, after := #[{ on := 50, ground := Ground.guard }], guard := some (50, true) })) (v := _) rfl (by kernel_rfl) (by kernel_rfl) (by kernel_rfl) (fun _ _ _ h => h) (Or.inr ⟨by rfl, rfl⟩) (by assumption) ?_
                (try simp only [Act.put, List.setIfInBounds_toArray, List.set_cons_zero, List.set_cons_succ])
                refine wpAnyH_take (i := 53) (oi := ({ dst := some 122, op := Op.indexAddr 22 (Operand.tmp 121) (Operand.const (Value.int IntKind.i64 0)), type := 0, pos := _, after := #[{ on := 52, ground := Ground.data }, { on := 50, ground := Ground.guard }], guard := some (50, true) })) (v := _) rfl (by kernel_rfl) (by kernel_rfl) (by kernel_rfl) (fun _ _ _ h => h) (Or.inr ⟨by rfl, rfl⟩) (by assumption) ?_
                (try simp only [Act.put, List.setIfInBounds_toArray, List.set_cons_zero, List.set_cons_succ])
                refine wpAnyH_take (i := 54) (oi := ({ dst := some 123, op := Op.load 3 (Operand.tmp 122), type := 3, pos := _, after := #[{ on := 53, ground := Ground.data }, { on := 50, ground := Ground.guard }], guard := some (50, true) })) (v := _) rfl (by kernel_rfl) (by kernel_rfl) (by kernel_rfl) (fun _ _ _ h => h) (Or.inr ⟨by rfl, rfl⟩) (by assumption) ?_
                (try simp only [Act.put, List.setIfInBounds_toArray, List.set_cons_zero, List.set_cons_succ])
                refine wpAnyH_take (i := 55) (oi := ({ dst := some 124, op := Op.binOp BinOp.leq 3 (Operand.tmp 120) (Operand.tmp 123) 3, type := 4, pos := _, after := #[{ on := 51, ground := Ground.data }, { on := 54, ground := Ground.data }, { on := 50, ground := Ground.guard }], guard := some (50, true) })) (v := _) rfl (by kernel_rfl) (by kernel_rfl) (by kernel_rfl) (fun _ _ _ h => h) (Or.inr ⟨by rfl, rfl⟩) (by assumption) ?_
                (try simp only [Act.put, List.setIfInBounds_toArray, List.set_cons_zero, List.set_cons_succ])
                refine wpAnyH_take (i := 56) (oi := ({ dst := some 125, op := Op.pick (Operand.tmp 119) (Operand.tmp 124) (Operand.const (Value.bool false)), type := 4, pos := _, after := #[{ on := 50, ground := Ground.data }, { on := 55, ground := Ground.data }, { on := 47, ground := Ground.guard }], guard := some (47, false) })) (v := ?_) rfl (by kernel_rfl) (by kernel_rfl) (by kernel_rfl) (fun _ _ _ h => h) (Or.inl ⟨by rfl, ?_⟩) (by assumption) ?_
                rotate_left
                · ((intro w hSw; (try dsimp only at hSw); go_simp); try (with_reducible rfl))
                (try simp only [Act.put, List.setIfInBounds_toArray, List.set_cons_zero, List.set_cons_succ])
                refine wpAnyH_take (i := 57) (oi := ({ dst := some 126, op := Op.pick (Operand.tmp 116) (Operand.const (Value.bool true)) (Operand.tmp 125), type := 4, pos := _, after := #[{ on := 47, ground := Ground.data }, { on := 56, ground := Ground.data }], guard := none })) (v := ?_) rfl (by kernel_rfl) (by kernel_rfl) (by kernel_rfl) (fun _ _ _ h => h) (Or.inl ⟨by rfl, ?_⟩) (by assumption) ?_
                rotate_left
                · ((intro w hSw; (try dsimp only at hSw); go_simp); try (with_reducible rfl))
                (try simp only [Act.put, List.setIfInBounds_toArray, List.set_cons_zero, List.set_cons_succ])
                refine wpAnyH_done (by kernel_rfl) ?_ _
                have hab := hr1.trans (hr2.mono hr1.size)
                have hall : Below wr.heap.size wr wy := (Below.refl wr.heap.size wr).drew.trans hab
                have hsz := hall.size
                have HT2 := Lib.hid (HT.out.below hall)
                have HG2 : Hid (RL wy (· < wy.heap.size) (some ⟨bg, og, none⟩) (rows (strandsL sg mt))) := Lib.hid ((HG.out.below hall).imp fun b hb => by omega)
                have HRK2 : Hid (RI wy (· < wy.heap.size) (some ⟨br, or, none⟩) (ints (cyc (nxS mt) mt.length h))) := Lib.hid ((HRK.out.below hall).imp fun b hb => by omega)
                have hs140 : t0 + j ≤ 139 := by omega
                clear hr1 hr2 hab hall HT HG HRK k0 k1 k2 k3 k4 k5 k6 k7
                go_wp2_with fail
                go_roundw
                case rel => exact ⟨j + 1, by omega, by go_num, by go_num, HT2, HG2, HRK2⟩
                case measure => simp [intOf]; omega
            · obtain rfl : j = m := by omega
              clear HRK
              go_wp2_with fail
              go_roundw
              case rel => exact ⟨k + 1, by omega, by go_num, by rw [HTK.out], HT, HG⟩
              case measure => simp [intOf]; omega
        · have hend : tot ((strandsL sg mt).take k) = 2 * sg.length := by rw [List.take_of_length_le (by rw [HR.out]; omega)]; exact strands_tot HYES.out
          rw [hend]
          have k0 := HT.out.c0
          have k1 := HT.out.c1
          have HB := Lib.hid HT.out.pr.below
          clear hend HT HG
          go_wp2_with fail
          go_ret
          exact ⟨rfl, HB.out⟩
end

theorem diagramStrands_walk (A1 A2 : Option Addr) (c1 c2 : Nat) (sg mt : List Int) (L : Int) (w : World) (hd : DArg w A1 A2 sg mt L) :
    Calls Try.prog 6 #[.agg #[.slice A1 sg.length c1, .slice A2 mt.length c2, .int .i64 L]] w fun e w' => e = .returned (.bool true) ∧ Below w.heap.size w w' := by
  by_cases hg : 70 < sg.length ∨ 300 < mt.length
  · exact strs_great A1 A2 c1 c2 sg mt L w hd hg
  by_cases hI : IsD sg mt L
  · exact strs_yes A1 A2 c1 c2 sg mt L w hd (by omega) (by omega) hI
  · exact strs_no A1 A2 c1 c2 sg mt L w hd (by omega) (by omega) hI
end Go.Proofs.Ytkanpcdjhaepjaa
