/-
  The law DiagramEuler, walked: the call returns true and writes nothing that was there.
-/
import Derived.Test.YtkanpcdjhaepjaaEulerM
import Derived.Deep.RegionHeld3
import Derived.IntWalk
namespace Go.Proofs.Ytkanpcdjhaepjaa
open Go.RowKit

/-- the box, the diagram, the faces, and the row of the faces' numbers -/
structure ESt (w0 w : World) (gp : Nat) (A1 A2 Ag : Option Addr) (c1 c2 : Nat) (sg mt : List Int) (L : Int) (p : List Int) : Prop where
  c0 : w.cell? ⟨w0.heap.size, 0, none⟩ = some (.slice A1 sg.length c1)
  c1 : w.cell? ⟨w0.heap.size, 1, none⟩ = some (.slice A2 mt.length c2)
  c2 : w.cell? ⟨w0.heap.size, 2, none⟩ = some (.int .i64 L)
  rs : RI w (· < w0.heap.size) A1 sg
  rm : RI w (· < w0.heap.size) A2 mt
  fl : RL w (· < gp) Ag (rows (facesL mt))
  pr : PRow w0 w w0.heap.size gp mt.length p
  pl : p.length = mt.length
  gb : w0.heap.size < gp

section
variable {w0 w w' : World} {gp : Nat} {A1 A2 Ag : Option Addr} {c1 c2 : Nat} {sg mt : List Int} {L : Int} {p : List Int}
theorem ESt.db (h : ESt w0 w gp A1 A2 Ag c1 c2 sg mt L p) : DBox w w0.heap.size A1 A2 c1 c2 sg mt L :=
  have h1 := h.pr.size
  have h2 := h.gb
  ⟨h.c0, h.c1, h.c2, by omega, h.rs.imp fun b hb => by omega, h.rm.imp fun b hb => by omega⟩
theorem ESt.below (h : ESt w0 w gp A1 A2 Ag c1 c2 sg mt L p) (hb : Below w.heap.size w w') : ESt w0 w' gp A1 A2 Ag c1 c2 sg mt L p := by
  have h1 := h.pr.size
  have h2 := h.gb
  have h3 := hb.size
  have h0 : w0.heap.size < w.heap.size := by omega
  exact ⟨(hb.cell (p := ⟨w0.heap.size, 0, none⟩) h0).trans h.c0, (hb.cell (p := ⟨w0.heap.size, 1, none⟩) h0).trans h.c1, (hb.cell (p := ⟨w0.heap.size, 2, none⟩) h0).trans h.c2,
    h.rs.keep fun b hlt => hb.block b (by omega), h.rm.keep fun b hlt => hb.block b (by omega), h.fl.keep fun b hlt => hb.block b (by omega),
    ⟨h.pr.own.below hb (Nat.le_refl _), h.pr.below.trans (hb.mono (by omega)), by omega⟩, h.pl, h.gb⟩
theorem ESt.drew (h : ESt w0 w gp A1 A2 Ag c1 c2 sg mt L p) : ESt w0 w.drew gp A1 A2 Ag c1 c2 sg mt L p := h.below (Below.refl _ _).drew
theorem ESt.store (h : ESt w0 w gp A1 A2 Ag c1 c2 sg mt L p) (k : Nat) (y : Int) : ESt w0 (w.setCell ⟨gp, k, none⟩ (.int .i64 y)) gp A1 A2 Ag c1 c2 sg mt L (p.set k y) := by
  have h2 := h.gb
  have hc : ∀ b, b < gp → (w.setCell ⟨gp, k, none⟩ (.int .i64 y)).heap[b]? = w.heap[b]? := fun b hb => Below.heap_setCell w _ _ b (by show b ≠ gp; omega)
  exact ⟨(World.cell?_of_block (a := ⟨w0.heap.size, 0, none⟩) (hc _ h2)).trans h.c0, (World.cell?_of_block (a := ⟨w0.heap.size, 1, none⟩) (hc _ h2)).trans h.c1, (World.cell?_of_block (a := ⟨w0.heap.size, 2, none⟩) (hc _ h2)).trans h.c2,
    h.rs.keep fun b hlt => hc b (by omega), h.rm.keep fun b hlt => hc b (by omega), h.fl.keep fun b hlt => hc b hlt, h.pr.store h.pl (by omega) y, by rw [List.length_set]; exact h.pl, h.gb⟩
theorem ESt.drewN (h : ESt w0 w gp A1 A2 Ag c1 c2 sg mt L p) (n : Nat) : ESt w0 (w.drewN n) gp A1 A2 Ag c1 c2 sg mt L p := h.below (below_drewN (Below.refl _ _) n)
theorem keepE (h : Hid (ESt w0 w gp A1 A2 Ag c1 c2 sg mt L p) ∧ w.cell? ⟨w0.heap.size, 0, none⟩ = some (.slice A1 sg.length c1) ∧ w.cell? ⟨w0.heap.size, 1, none⟩ = some (.slice A2 mt.length c2) ∧ w.cell? ⟨w0.heap.size, 2, none⟩ = some (.int .i64 L)) (hb : Below w.heap.size w w') :
    Hid (ESt w0 w' gp A1 A2 Ag c1 c2 sg mt L p) ∧ w'.cell? ⟨w0.heap.size, 0, none⟩ = some (.slice A1 sg.length c1) ∧ w'.cell? ⟨w0.heap.size, 1, none⟩ = some (.slice A2 mt.length c2) ∧ w'.cell? ⟨w0.heap.size, 2, none⟩ = some (.int .i64 L) := by
  have h' := h.1.out.below hb
  exact ⟨Lib.hid h', h'.c0, h'.c1, h'.c2⟩
theorem graphT (h : Hid (ESt w0 w gp A1 A2 Ag c1 c2 sg mt L p)) (hd : Hid (IsD sg mt L)) {q : Nat} (hq : Hid ((graphL mt sg.length).length = q)) :
    Calls Try.prog 21 #[.agg #[.slice A1 sg.length c1, .slice A2 mt.length c2, .int .i64 L]] w fun e w' => (∃ A c, e = .returned (.slice A q c)) ∧ Below w.heap.size w w' := by
  refine (graph_ok A1 A2 c1 c2 sg mt L w (· < w.heap.size) h.out.db.rs h.out.db.rm (fun _ h => h) hd.out).mono ?_
  rintro e w' ⟨v, rfl, hr, hb⟩
  obtain ⟨A, c, rfl, -⟩ := hr.shape
  rw [rows_cycs_length, hq.out]
  exact ⟨⟨A, c, rfl⟩, hb⟩
end

section
variable (A1 A2 : Option Addr) (c1 c2 : Nat) (sg mt : List Int) (L : Int) (w : World) (hd : DArg w A1 A2 sg mt L)
include hd

set_option maxHeartbeats 2000000 in
theorem eul_great (hg : 70 < sg.length ∨ 300 < mt.length) :
    Calls Try.prog 4 #[.agg #[.slice A1 sg.length c1, .slice A2 mt.length c2, .int .i64 L]] w fun e w' => e = .returned (.bool true) ∧ Below w.heap.size w w' := by
  have HD := Lib.hid (DBox.start (c1 := c1) (c2 := c2) (L := L) (· < w.heap.size) hd.rs hd.rm (fun _ h => h))
  have HG := Lib.hid hg
  clear hd hg
  go_enter Try.func4, Try.ntmps4
  go_wp2_with fail
  refine (awake_any _).mono ?_
  rintro e w1 ⟨rfl, hb1⟩
  have HD1 := Lib.hid (HD.out.below hb1)
  have k0 := HD1.out.c0
  have k1 := HD1.out.c1
  have k2 := HD1.out.c2
  have HB1 := Lib.hid (below_box (o := .cells #[.slice A1 sg.length c1, .slice A2 mt.length c2, .int .i64 L] 24) (by simpa using hb1))
  clear hb1
  go_wp2_with fail
  refine (great_yes A1 A2 c1 c2 sg mt L w1 HG.out).mono ?_
  rintro e w2 ⟨rfl, hb2⟩
  have HB2 := Lib.hid (HB1.out.trans (hb2.mono HB1.out.size))
  clear hb2 k0 k1 k2
  go_wp2_with fail
  go_ret
  exact ⟨rfl, HB2.out⟩

set_option maxHeartbeats 4000000 in
theorem eul_no (hg1 : ¬ 70 < sg.length) (hg2 : ¬ 300 < mt.length) (hno : ¬ IsD sg mt L) :
    Calls Try.prog 4 #[.agg #[.slice A1 sg.length c1, .slice A2 mt.length c2, .int .i64 L]] w fun e w' => e = .returned (.bool true) ∧ Below w.heap.size w w' := by
  have HD := Lib.hid (DBox.start (c1 := c1) (c2 := c2) (L := L) (· < w.heap.size) hd.rs hd.rm (fun _ h => h))
  have HL1 := Lib.hid hd.ls
  have HL2 := Lib.hid hd.lm
  have HG1 := Lib.hid hg1
  have HG2 := Lib.hid hg2
  have HNO := Lib.hid hno
  clear hd hg1 hg2 hno
  go_enter Try.func4, Try.ntmps4
  go_wp2_with fail
  refine (awake_any _).mono ?_
  rintro e w1 ⟨rfl, hb1⟩
  have HD1 := Lib.hid (HD.out.below hb1)
  have k0 := HD1.out.c0
  have k1 := HD1.out.c1
  have k2 := HD1.out.c2
  have HB1 := Lib.hid (below_box (o := .cells #[.slice A1 sg.length c1, .slice A2 mt.length c2, .int .i64 L] 24) (by simpa using hb1))
  clear hb1
  go_wp2_with fail
  refine (great_no A1 A2 c1 c2 sg mt L w1 HG1.out HG2.out).mono ?_
  rintro e w2 ⟨rfl, hb2⟩
  have HB2 := Lib.hid (HB1.out.trans (hb2.mono HB1.out.size))
  have HD2 := Lib.hid (HD1.out.below hb2)
  clear hb2 k0 k1 k2 HD HD1 HB1
  have k0 := HD2.out.c0
  have k1 := HD2.out.c1
  have k2 := HD2.out.c2
  go_wp2_with fail
  refine (dvalid_is (· < w2.heap.size) false HD2.out.rs HD2.out.rm (fun _ h => h) HL1.out HL2.out (decide_eq_false HNO.out)).mono ?_
  rintro e w3 ⟨rfl, hb3⟩
  have HB3 := Lib.hid (HB2.out.trans (hb3.mono HB2.out.size))
  clear hb3 k0 k1 k2
  go_wp2_with fail
  go_ret
  exact ⟨rfl, HB3.out⟩

set_option maxRecDepth 100000 in
set_option maxHeartbeats 8000000 in
theorem eul_yes (hg1 : ¬ 70 < sg.length) (hg2 : ¬ 300 < mt.length) (hyes : IsD sg mt L) :
    Calls Try.prog 4 #[.agg #[.slice A1 sg.length c1, .slice A2 mt.length c2, .int .i64 L]] w fun e w' => e = .returned (.bool true) ∧ Below w.heap.size w w' := by
  have HD := Lib.hid (DBox.start (c1 := c1) (c2 := c2) (L := L) (· < w.heap.size) hd.rs hd.rm (fun _ h => h))
  have HW1 := Lib.hid hd.rs
  have HW2 := Lib.hid hd.rm
  have HL1 := Lib.hid hd.ls
  have HL2 := Lib.hid hd.lm
  have HG1 := Lib.hid hg1
  have HG2 := Lib.hid hg2
  have HYES := Lib.hid hyes
  have HPF := Lib.hid (nxF_perm hyes.2.2.2.2.2.1 hyes.2.1)
  have hsl : sg.length ≤ 70 := by omega
  have hml : mt.length ≤ 300 := by omega
  have hmk := make_ints 22 Try.underlying22 mt.length (by omega)
  clear hd hg1 hg2 hyes
  go_enter Try.func4, Try.ntmps4
  go_wp2_with fail
  refine (awake_any _).mono ?_
  rintro e w1 ⟨rfl, hb1⟩
  have HD1 := Lib.hid (HD.out.below hb1)
  have k0 := HD1.out.c0
  have k1 := HD1.out.c1
  have k2 := HD1.out.c2
  have HB1 := Lib.hid (below_box (o := .cells #[.slice A1 sg.length c1, .slice A2 mt.length c2, .int .i64 L] 24) (by simpa using hb1))
  clear hb1
  go_wp2_with fail
  refine (great_no A1 A2 c1 c2 sg mt L w1 HG1.out HG2.out).mono ?_
  rintro e w2 ⟨rfl, hb2⟩
  have HB2 := Lib.hid (HB1.out.trans (hb2.mono HB1.out.size))
  have HD2 := Lib.hid (HD1.out.below hb2)
  clear hb2 k0 k1 k2 HD HD1 HB1
  have k0 := HD2.out.c0
  have k1 := HD2.out.c1
  have k2 := HD2.out.c2
  go_wp2_with fail
  refine (dvalid_is (· < w2.heap.size) true HD2.out.rs HD2.out.rm (fun _ h => h) HL1.out HL2.out (decide_eq_true HYES.out)).mono ?_
  rintro e w3 ⟨rfl, hb3⟩
  have HB3 := Lib.hid (HB2.out.trans (hb3.mono HB2.out.size))
  have HD3 := Lib.hid (HD2.out.below hb3)
  clear hb3 k0 k1 k2 HD2 HB2
  have k0 := HD3.out.c0
  have k1 := HD3.out.c1
  have k2 := HD3.out.c2
  go_wp2_with fail
  refine (faces_ok A1 A2 c1 c2 sg mt L w3 (· < w3.heap.size) HD3.out.rs HD3.out.rm (fun _ h => h) HYES.out).mono ?_
  rintro e w4 ⟨v4, rfl, hr4, hb4⟩
  obtain ⟨Ag, cg, rfl, hg4⟩ := hr4.reads
  have hgl : (rows (facesL mt)).length = (facesL mt).length := rows_cycs_length _
  obtain ⟨q, hq⟩ : ∃ q, (facesL mt).length = q := ⟨_, rfl⟩
  have HQ := Lib.hid hq
  have hqm : q ≤ mt.length := by
    rw [← hq]
    unfold facesL cycsL
    rw [List.length_map]
    exact Nat.le_trans (List.length_filter_le _ _) (by simp)
  rw [hgl, hq]
  have HB4 := Lib.hid (HB3.out.trans (hb4.mono HB3.out.size))
  have HD4 := Lib.hid (HD3.out.below hb4)
  have hs3 : w.heap.size < w4.heap.size := HD4.out.lt
  have G4 : Hid (RL w4 (· < w4.heap.size) Ag (rows (facesL mt))) := Lib.hid (hg4.imp fun b hb => hb.2)
  clear hgl hq hr4 hg4 hb4 k0 k1 k2 HD3 HB3
  have T0 : Hid (ESt w (w4.alloc (.cells (Array.replicate mt.length (Value.int .i64 0)) 3)) w4.heap.size A1 A2 Ag c1 c2 sg mt L (List.replicate mt.length 0)) := by
    have hb := (Below.refl w4.heap.size w4).alloc (Nat.le_refl _) (.cells (Array.replicate mt.length (Value.int .i64 0)) 3)
    have hd := HD4.out.below hb
    have hw := HB4.out.trans (hb.mono HB4.out.size)
    have hp := OI.new w4 w.heap.size mt.length HB4.out.size (by unfold maxLen; omega)
    exact Lib.hid ⟨hd.c0, hd.c1, hd.c2, HW1.out.below hw, HW2.out.below hw, G4.out.keep fun b hlt => hb.block b hlt, ⟨by simpa using hp, hw, by simp⟩, by simp, hs3⟩
  have k0 := HD4.out.c0
  have k1 := HD4.out.c1
  have k2 := HD4.out.c2
  go_wp2_with fail
  clear hmk k0 k1 k2 HD4 HB4 G4
  generalize hW : w4.alloc (.cells (Array.replicate mt.length (Value.int .i64 0)) 3) = w5 at *
  clear hW
  obtain ⟨gp, hgp⟩ : ∃ g, w4.heap.size = g := ⟨_, rfl⟩
  rw [hgp] at T0 ⊢
  clear hgp hs3
  go_wp2_with fail
  go_loopw [29] (fun i wr => ∃ (k : Nat) (p : List Int), k ≤ mt.length ∧ i = .int .i64 k ∧ Hid (ESt w wr gp A1 A2 Ag c1 c2 sg mt L p) ∧ Hid (∀ j, j < k → gi p j = -1)) (fun i _ => mt.length - (intOf i).toNat)
  case atStart => exact ⟨0, _, Nat.zero_le _, rfl, T0, Lib.hid fun j h => by omega⟩
  case round =>
    clear T0
    obtain ⟨k, p, hk, rfl, HT, HV⟩ := hrel
    by_cases hlt : k < mt.length
    · obtain ⟨k4, k5⟩ := HT.out.pr.at_ HT.out.pl hlt
      have hsg := HT.out.pr.size
      have HT' := Lib.hid (HT.out.store k (-1))
      have HV' : Hid (∀ j, j < k + 1 → gi (p.set k (-1)) j = -1) := by
        refine Lib.hid fun j hj => ?_
        rw [gi_set (by rw [HT.out.pl]; exact hlt)]
        split
        · rfl
        · exact HV.out j (by omega)
      clear HT HV
      go_wp2_with fail
      go_roundw
      case rel => exact ⟨k + 1, _, by omega, by go_num, HT', HV'⟩
      case measure => simp [intOf]; omega
    · have F0 : Hid (FIn mt 0 0 p) := Lib.hid (fin_start fun j hj => HV.out j (by omega))
      clear HV
      go_wp2_with fail
      go_loopw [38] (fun i wr => ∃ (k : Nat) (p : List Int), k ≤ q ∧ i = .int .i64 k ∧ Hid (ESt w wr gp A1 A2 Ag c1 c2 sg mt L p) ∧ Hid (FIn mt k 0 p)) (fun i _ => q - (intOf i).toNat)
      case atStart => exact ⟨0, _, Nat.zero_le _, rfl, HT, F0⟩
      case round =>
        clear HT F0
        obtain ⟨k, p, hk, rfl, HT, HV⟩ := hrel
        by_cases hlt : k < q
        · have hkl : k < (facesL mt).length := by have := HQ.out; omega
          have hrow : (facesL mt)[k] = fa mt k := (fa_eq hkl).symm
          obtain ⟨bg, og, rfl, -, hcg⟩ := HT.out.fl.at_ (k := k) (by rw [rows_cycs_length]; exact hkl)
          obtain ⟨Ak, ck, hck, hrk, hmk⟩ := hcg k (by rw [rows_cycs_length]; exact hkl)
          rw [rows_getD hkl, hrow, ints_length] at hck
          rw [rows_getD hkl, hrow] at hrk
          rw [rows_getD hkl, hrow, ints_length] at hmk
          have HRK := Lib.hid hrk
          obtain ⟨m, hm⟩ : ∃ m, (fa mt k).length = m := ⟨_, rfl⟩
          have HM := Lib.hid hm
          have hmb : m ≤ mt.length := by
            obtain ⟨a, ha, e⟩ := face_at hkl
            rw [← hm, fa_eq hkl, e]
            exact cyc_length_le HPF.out ha
          rw [hm] at hck hmk
          clear hcg hrk hrow hm
          go_wp2_with fail
          clear hck
          go_loopw [45] (fun i wr => ∃ (j : Nat) (p : List Int), j ≤ m ∧ i = .int .i64 j ∧ Hid (ESt w wr gp A1 A2 (some ⟨bg, og, none⟩) c1 c2 sg mt L p) ∧ Hid (RI wr (· < gp) Ak (ints (fa mt k))) ∧ Hid (FIn mt k j p)) (fun i _ => m - (intOf i).toNat)
          case atStart => exact ⟨0, p, Nat.zero_le _, rfl, HT, HRK, HV⟩
          case round =>
            clear HT HRK HV
            obtain ⟨j, p, hj, rfl, HT, HRK, HV⟩ := hrel
            by_cases hlt2 : j < m
            · have hjl : j < (fa mt k).length := by have := HM.out; omega
              have HV' := Lib.hid (fin_step HPF.out hkl hjl HT.out.pl HV.out)
              have hop := fin_open HPF.out hkl hjl HV.out
              have hxn := fa_lt HPF.out hkl (List.getElem_mem hjl)
              obtain ⟨br, or, rfl, hgb, hcr⟩ := HRK.out.at_ (k := j) (by rw [ints_length]; exact hjl)
              have k3 := hcr j (by rw [ints_length]; exact hjl)
              rw [gi_ints hjl, gN_lt hjl] at k3
              obtain ⟨x, hx⟩ : ∃ x, (fa mt k)[j] = x := ⟨_, rfl⟩
              rw [hx] at HV' hop hxn k3
              obtain ⟨k4, k5⟩ := HT.out.pr.at_ HT.out.pl hxn
              rw [hop] at k4
              have hsg := HT.out.pr.size
              have HT' := Lib.hid (HT.out.store x (k : Int))
              have hne : ∀ b, b < gp → (wr.setCell ⟨gp, x, none⟩ (.int .i64 (k : Int))).heap[b]? = wr.heap[b]? := fun b hb => Below.heap_setCell wr _ _ b (by show b ≠ gp; omega)
              have HR' := Lib.hid (HRK.out.keep hne)
              have q1 : decide ((x : Int) < 0) = false := decide_eq_false (by omega)
              have q2 : decide ((mt.length : Int) ≤ x) = false := decide_eq_false (by omega)
              clear hne hcr hx hop HT HRK HV
              go_wp2_with fail
              go_roundw
              case rel => exact ⟨j + 1, _, by omega, by go_num, HT', HR', HV'⟩
              case measure => simp [intOf]; omega
            · obtain rfl : j = m := by omega
              have HV' : Hid (FIn mt (k + 1) 0 p) := Lib.hid (fin_next (by rw [HM.out]; exact HV.out))
              clear HV HRK
              go_wp2_with fail
              go_roundw
              case rel => exact ⟨k + 1, _, by omega, by go_num, HT, HV'⟩
              case measure => simp [intOf]; omega
        · obtain rfl : k = q := by omega
          rw [← HQ.out] at HV
          have HFE : Hid (∀ x, x < mt.length → ∃ a b : Nat, gi p x = (a : Int) ∧ gi p (gn mt x) = (b : Int) ∧ a ≠ b) := Lib.hid fun x hx => fin_end HYES.out HV.out hx
          clear HV
          go_wp2_with fail
          go_loopw [72] (fun i wr => ∃ k : Nat, k ≤ mt.length ∧ i = .int .i64 k ∧ Hid (ESt w wr gp A1 A2 Ag c1 c2 sg mt L p)) (fun i _ => mt.length - (intOf i).toNat)
          case atStart => exact ⟨0, Nat.zero_le _, rfl, HT⟩
          case round =>
            clear HT
            obtain ⟨h, hh, rfl, HT⟩ := hrel
            by_cases hlt : h < mt.length
            · obtain ⟨a, b, ha, hb, hab⟩ := HFE.out h hlt
              obtain ⟨gn1, gn2, -, -⟩ := HYES.out.2.2.2.2.2.1.gn hlt
              obtain ⟨x, hx⟩ : ∃ x, gn mt h = x := ⟨_, rfl⟩
              rw [hx] at gn1 gn2 hb
              obtain ⟨bm, om, rfl, -, hcm⟩ := HT.out.rm.at_ hlt
              have k3 := hcm h hlt
              rw [gn1] at k3
              have k4 := (HT.out.pr.at_ HT.out.pl hlt).1
              have k5 := (HT.out.pr.at_ HT.out.pl gn2).1
              rw [ha] at k4
              rw [hb] at k5
              have k1 := HT.out.c1
              have q1 : ((a : Int) == -1) = false := by rw [beq_eq_false_iff_ne]; omega
              have q2 : ((a : Int) == (b : Int)) = false := by rw [beq_eq_false_iff_ne]; omega
              have z1 : (0 : Int) ≤ (h : Int) ∧ (h : Int) < (mt.length : Int) := by omega
              have z2 : (0 : Int) ≤ (x : Int) ∧ (x : Int) < (mt.length : Int) := by omega
              clear hcm hx ha hb hab gn1
              go_wp2_with fail
              go_quiet (fail)
              go_wp2_with fail
              go_roundw
              case rel => exact ⟨h + 1, by omega, by go_num, Lib.hid (HT.out.drewN _)⟩
              case measure => simp [intOf]; omega
            · obtain ⟨r, hr⟩ : ∃ r, (graphL mt sg.length).length = r := ⟨_, rfl⟩
              have hcount := euler_count HYES.out
              rw [HQ.out, hr] at hcount
              have HR := Lib.hid hr
              have k0 := HT.out.c0
              have k1 := HT.out.c1
              have k2 := HT.out.c2
              have HB := Lib.hid HT.out.pr.below
              have hsz := HT.out.pr.size
              have hgb := HT.out.gb
              subst hcount
              clear hr HFE HQ
              have hr70 : r ≤ 200 := by omega
              have q1 : IntKind.i64.wrap (2 * (r : Int)) = 2 * (r : Int) := IntWalk.i64_in _ (by omega)
              have q2 : IntKind.i64.wrap ((sg.length : Int) + 2 * (r : Int)) = (sg.length : Int) + 2 * (r : Int) := IntWalk.i64_in _ (by omega)
              have q3 : (((sg.length + 2 * r : Nat) : Int) == (sg.length : Int) + 2 * (r : Int)) = true := by rw [beq_iff_eq]; omega
              go_wp2_with fail
              go_region_held3 (fun w' => Hid (ESt w w' gp A1 A2 Ag c1 c2 sg mt L p) ∧ w'.cell? ⟨w.heap.size, 0, none⟩ = some (.slice A1 sg.length c1) ∧ w'.cell? ⟨w.heap.size, 1, none⟩ = some (.slice A2 mt.length c2) ∧ w'.cell? ⟨w.heap.size, 2, none⟩ = some (.int .i64 L))
                (first | exact keepE ⟨HT, k0, k1, k2⟩ (Below.refl _ _).drew | exact keepE (by assumption) hr1)
                ((go_at_call 21; ((refine (graphT (by first | assumption | exact And.left (by assumption)) HYES HR).mono ?_); rintro e9 wx ⟨⟨Ax, cx, rfl⟩, hr1⟩)))
              have hall : Below w.heap.size w wx := HB.out.trans (((Below.refl wr.heap.size wr).drew.trans hr1).mono (by omega))
              have HB2 := Lib.hid hall
              clear hall hr1 HT HB k0 k1 k2
              go_wp2_with fail
              go_ret
              exact ⟨rfl, HB2.out⟩
end

theorem diagramEuler_walk (A1 A2 : Option Addr) (c1 c2 : Nat) (sg mt : List Int) (L : Int) (w : World) (hd : DArg w A1 A2 sg mt L) :
    Calls Try.prog 4 #[.agg #[.slice A1 sg.length c1, .slice A2 mt.length c2, .int .i64 L]] w fun e w' => e = .returned (.bool true) ∧ Below w.heap.size w w' := by
  by_cases hg : 70 < sg.length ∨ 300 < mt.length
  · exact eul_great A1 A2 c1 c2 sg mt L w hd hg
  by_cases hI : IsD sg mt L
  · exact eul_yes A1 A2 c1 c2 sg mt L w hd (by omega) (by omega) hI
  · exact eul_no A1 A2 c1 c2 sg mt L w hd (by omega) (by omega) hI
end Go.Proofs.Ytkanpcdjhaepjaa
