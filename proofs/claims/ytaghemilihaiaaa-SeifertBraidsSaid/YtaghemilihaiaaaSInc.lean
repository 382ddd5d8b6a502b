/-
  The contract of seifert.Incoherent.
-/
import Derived.Test.YtaghemilihaiaaaInc
namespace Go.Proofs.Ytaghemilihaiaaa
open Go.RowKit

/-- while the row of the faces' numbers is filled -/
structure InSt (w5 wr : World) (gf N : Nat) (p : List Int) : Prop where
  own : OI wr gf (.slice (some ⟨gf, 0, none⟩) N N) p
  len : p.length = N
  bel : Below gf w5 wr
  keep : ∀ b, b < w5.heap.size → b ≠ gf → wr.heap[b]? = w5.heap[b]?
theorem InSt.at_ {w5 wr : World} {gf N : Nat} {p : List Int} (h : InSt w5 wr gf N p) {j : Nat} (hj : j < N) : wr.cell? ⟨gf, j, none⟩ = some (.int .i64 (gi p j)) ∧ wr.frozen? ⟨gf, j, none⟩ = false := by
  have hl := h.len
  obtain ⟨-, -, -, -, hc, hf⟩ := h.own.ints_at (by omega)
  exact ⟨hc j (by omega), hf j⟩
theorem InSt.store {w5 wr : World} {gf N : Nat} {p : List Int} (h : InSt w5 wr gf N p) (j : Nat) (y : Int) : InSt w5 (wr.setCell ⟨gf, j, none⟩ (.int .i64 y)) gf N (p.set j y) := by
  refine ⟨?_, by rw [List.length_set]; exact h.len, h.bel.setCell (Nat.le_refl _) _, fun b hb hne => by rw [Below.heap_setCell wr _ _ b hne]; exact h.keep b hb hne⟩
  have h1 : OI wr gf (.slice (some ⟨gf, 0, none⟩) p.length N) p := by rw [h.len]; exact h.own
  have h2 := OR.stored (k := j) h1 y
  rw [List.length_set, h.len] at h2
  exact h2
/-- what the last loops read -/
structure IcC (w : World) (A1 A2 : Option Addr) (c1 c2 : Nat) (sg mt : List Int) (L : Int) (bd bn gp gf : Nat) (p : List Int) : Prop where
  db : DBox w bd A1 A2 c1 c2 sg mt L
  vb : w.cell? ⟨bn, 0, none⟩ = some (.slice (some ⟨gp, 0, none⟩) mt.length mt.length)
  nu : ∀ x, x < mt.length → w.cell? ⟨gp, x, none⟩ = some (.int .i64 (numI (nxC sg mt) mt.length (outB sg) x))
  fc : ∀ x, x < mt.length → w.cell? ⟨gf, x, none⟩ = some (.int .i64 (gi p x))
  lt : bn < w.heap.size ∧ (0 < mt.length → gp < w.heap.size ∧ gf < w.heap.size)
theorem IcC.below {w w' : World} {A1 A2 : Option Addr} {c1 c2 : Nat} {sg mt : List Int} {L : Int} {bd bn gp gf : Nat} {p : List Int} (h : IcC w A1 A2 c1 c2 sg mt L bd bn gp gf p) (hb : Below w.heap.size w w') : IcC w' A1 A2 c1 c2 sg mt L bd bn gp gf p :=
  ⟨h.db.below hb, (hb.cell (p := ⟨bn, 0, none⟩) h.lt.1).trans h.vb, fun x hx => (hb.cell (p := ⟨gp, x, none⟩) (h.lt.2 (by omega)).1).trans (h.nu x hx), fun x hx => (hb.cell (p := ⟨gf, x, none⟩) (h.lt.2 (by omega)).2).trans (h.fc x hx),
    ⟨by have := h.lt.1; have := hb.size; omega, fun h0 => by have := h.lt.2 h0; have := hb.size; omega⟩⟩

theorem incQ {w : World} {A1 A2 : Option Addr} {c1 c2 : Nat} {sg mt : List Int} {L hi : Int} {bd bn gp gf h : Nat} {p : List Int} (hc : IcC w A1 A2 c1 c2 sg mt L bd bn gp gf p) (n : Nat) (hd : IsD sg mt L) (hh : h < mt.length) (he : hi = h) (m : Nat) (hm : ceN sg mt h = m) :
    Calls Try.prog 48 #[.int .i64 hi, .pointer (some ⟨bn, 0, none⟩), .pointer (some ⟨bd, 0, none⟩)] (w.drewN n) fun e w' => e = .returned (.int .i64 (m : Int)) ∧ ∃ k, w' = (w.drewN n).drewN k :=
  incC (by exact hc.vb) (hc.db.drewN n) (by exact hc.nu) hd hh he m hm

section
variable (A1 A2 : Option Addr) (c1 c2 : Nat) (sg mt : List Int) (L : Int) (w : World) (S : Nat → Prop) (hx : RI w S A1 sg) (hy : RI w S A2 mt) (hS : ∀ b, S b → b < w.heap.size)
include hx hy hS
set_option maxHeartbeats 1000000 in
theorem sinc_no (hm1 : sg.length ≤ maxLen) (hm2 : mt.length ≤ maxLen) (hno : ¬ IsD sg mt L) :
    Calls Try.prog 25 #[.agg #[.slice A1 sg.length c1, .slice A2 mt.length c2, .int .i64 L]] w fun e w' => e = .returned (.slice none 0 0) ∧ Below w.heap.size w w' := by
  have HD := Lib.hid (DBox.start (c1 := c1) (c2 := c2) (L := L) S hx hy hS)
  have H := Lib.hid (decide_eq_false hno)
  clear hx hy hS hno
  go_enter Try.func25, Try.ntmps25
  go_wp2_with fail
  refine (dvalid_is _ false HD.out.rs HD.out.rm (fun _ h => h) hm1 hm2 H.out).mono ?_
  rintro e w1 ⟨rfl, hb1⟩
  go_wp2_with fail
  go_ret
  exact ⟨rfl, below_box (by simpa using hb1)⟩

set_option maxRecDepth 100000 in
set_option maxHeartbeats 8000000 in
theorem sinc_ok (hd : IsD sg mt L) (h256 : mt.length ≤ 256) :
    Calls Try.prog 25 #[.agg #[.slice A1 sg.length c1, .slice A2 mt.length c2, .int .i64 L]] w fun e w' => ∃ v, e = .returned v ∧ OP w' w.heap.size v (incL sg mt mt.length) ∧ Below w.heap.size w w' := by
  have HD := Lib.hid (DBox.start (c1 := c1) (c2 := c2) (L := L) S hx hy hS)
  have H := Lib.hid hd
  have HP := Lib.hid (nxF_perm hd.2.2.2.2.2.1 hd.2.1)
  obtain ⟨h1, h2, h3, h4, -, h6, -, -⟩ := hd
  have hm1 : sg.length ≤ maxLen := by unfold maxLen; omega
  have hm2 : mt.length ≤ maxLen := by unfold maxLen; omega
  have hmk := make_ints 22 Try.underlying22 mt.length (by omega)
  clear hx hy hS h6 h2
  go_enter Try.func25, Try.ntmps25
  go_wp2_with fail
  refine (dvalid_is _ true HD.out.rs HD.out.rm (fun _ h => h) hm1 hm2 (decide_eq_true H.out)).mono ?_
  rintro e w1 ⟨rfl, hb1⟩
  have HD1 := Lib.hid (HD.out.below hb1)
  have k0 := HD1.out.c0
  have k1 := HD1.out.c1
  have k2 := HD1.out.c2
  have HB1 := Lib.hid (below_box (o := (.cells #[.slice A1 sg.length c1, .slice A2 mt.length c2, .int .i64 L] 24)) (by simpa using hb1))
  have hs1 := HB1.out.size
  clear hb1 HD
  go_wp2_with fail
  refine (circles_any A1 A2 c1 c2 sg mt L w1 (· < w1.heap.size) HD1.out.rs HD1.out.rm (fun _ h => h) H.out).mono ?_
  rintro e w2 ⟨v, rfl, hr, hn2, hb2⟩
  have HB2 := Lib.hid (HB1.out.trans (hb2.mono hs1))
  have HD2 := Lib.hid (HD1.out.below hb2)
  have HN2 := Lib.hid hn2
  obtain ⟨gp, hgp⟩ : ∃ gp, w1.heap.size + 1 = gp := ⟨_, rfl⟩
  rw [hgp] at HN2 ⊢
  have hgs : 0 < mt.length → gp < w2.heap.size := fun h0 => by
    obtain ⟨-, -, h5, -, -, -⟩ := HN2.out.ints_at (by rw [numsL_length]; exact h0)
    exact h5
  have HGS := Lib.hid hgs
  clear hr hb2 k0 k1 k2 HD1 HB1 hn2 hgp hgs
  have k0 := HD2.out.c0
  have k1 := HD2.out.c1
  have k2 := HD2.out.c2
  have hb3 := (Below.refl w2.heap.size w2).alloc (Nat.le_refl _) (.cells #[.slice (some ⟨gp, 0, none⟩) mt.length mt.length] 22)
  have hb4 := hb3.alloc (by simp) (.cells (Array.replicate mt.length (Value.int .i64 0)) 3)
  have hd3 := HD2.out.below hb3
  have hd4 := HD2.out.below hb4
  have q0 := hd3.c0
  have q1 := hd3.c1
  have q2 := hd3.c2
  have r0 := hd4.c0
  have r1 := hd4.c1
  have r2 := hd4.c2
  have hcb := heap_alloc_new w2 (.cells #[.slice (some ⟨gp, 0, none⟩) mt.length mt.length] 22)
  have hnew := OI.new (w2.alloc (.cells #[.slice (some ⟨gp, 0, none⟩) mt.length mt.length] 22)) (w2.heap.size + 1) mt.length (by simp) (by unfold maxLen; omega)
  have HW4 := Lib.hid (And.intro hb4 (And.intro hcb hnew))
  clear hb3 hb4 hd3 hd4 hcb hnew
  go_wp2_with fail
  obtain ⟨W, hW⟩ : ∃ W, (w2.alloc (.cells #[.slice (some ⟨gp, 0, none⟩) mt.length mt.length] 22)).alloc (.cells (Array.replicate mt.length (Value.int .i64 0)) 3) = W := ⟨_, rfl⟩
  obtain ⟨hb4, hcb, hnew⟩ := HW4.out
  have hsz : W.heap.size = w2.heap.size + 2 := by rw [← hW]; simp
  have hcb2 : W.heap[w2.heap.size]? = some (.cells #[.slice (some ⟨gp, 0, none⟩) mt.length mt.length] 22 (0, 0)) := by rw [← hW, Below.heap_alloc _ _ _ (by simp)]; exact hcb
  have hnew2 : OI W (w2.heap.size + 1) (.slice (some ⟨w2.heap.size + 1, 0, none⟩) mt.length mt.length) (List.replicate mt.length 0) := by rw [← hW]; simpa using hnew
  have hbW : Below w2.heap.size w2 W := by rw [← hW]; exact hb4
  clear q0 q1 q2 r0 r1 r2
  rw [hW]
  have HDW := Lib.hid (HD2.out.below hbW)
  have HBW := Lib.hid (HB2.out.trans (hbW.mono HB2.out.size))
  have HB24 := Lib.hid hbW
  clear HW4 hb4 hcb hnew k0 k1 k2 hW
  refine (faces_ok A1 A2 c1 c2 sg mt L W (· < W.heap.size) HDW.out.rs HDW.out.rm (fun _ h => h) H.out).mono ?_
  rintro e w5 ⟨v2, rfl, hr, hb5⟩
  obtain ⟨Af, cf, rfl, hrl⟩ := hr.reads
  obtain ⟨q, hq⟩ : ∃ q, (facesL mt).length = q := ⟨_, rfl⟩
  have hqr : (rows (facesL mt)).length = q := by rw [rows_cycs_length]; exact hq
  have hqb : q ≤ 256 := by
    have := cycsL_len (nxF mt) mt.length allT mt.length
    rw [rows_cycs_length] at this
    rw [← hq]; unfold facesL; omega
  rw [hqr]
  have HQQ := Lib.hid hq
  have HQR := Lib.hid hqr
  have HRL := Lib.hid hrl
  have HSZ := Lib.hid (And.intro hsz hb5.size)
  have hd5 := HDW.out.below hb5
  have hvb5 : w5.cell? ⟨w2.heap.size, 0, none⟩ = some (.slice (some ⟨gp, 0, none⟩) mt.length mt.length) := by
    rw [hb5.cell (p := ⟨w2.heap.size, 0, none⟩) (by show w2.heap.size < W.heap.size; omega), cell_of_row _ _ _ _ _ _ hcb2]; rfl
  have hnu5 : ∀ x, x < mt.length → w5.cell? ⟨gp, x, none⟩ = some (.int .i64 (numI (nxC sg mt) mt.length (outB sg) x)) := fun x hx => by
    obtain ⟨-, -, hg5, -, hcell, -⟩ := HN2.out.ints_at (by rw [numsL_length]; omega)
    have := hcell x (by rw [numsL_length]; exact hx)
    rw [gi_numsL hx] at this
    exact (hb5.cell (p := ⟨gp, x, none⟩) (by show gp < W.heap.size; omega)).trans ((hbW.cell (p := ⟨gp, x, none⟩) hg5).trans this)
  have HB25 := Lib.hid (hbW.trans (hb5.mono hbW.size))
  have HD5 := Lib.hid hd5
  have HV5 := Lib.hid hvb5
  have HU5 := Lib.hid hnu5
  have hI : InSt w5 w5 (w2.heap.size + 1) mt.length (List.replicate mt.length 0) := ⟨(hnew2.below hb5 (Nat.le_refl _)), by simp, Below.refl _ _, fun _ _ _ => rfl⟩
  have HI0 := Lib.hid hI
  have HB5 := Lib.hid (HBW.out.trans (hb5.mono HBW.out.size))
  clear hr hrl hq hqr hsz hcb2 hnew2 hbW hb5 hd5 hvb5 hnu5 hI HB24
  go_wp2_with fail
  clear hmk
  go_loopw [30] (fun i wr => ∃ (k : Nat) (p : List Int), k ≤ q ∧ i = .int .i64 k ∧ Hid (InSt w5 wr (w2.heap.size + 1) mt.length p) ∧ Hid (FI2 mt k 0 p)) (fun i _ => q - (intOf i).toNat)
  case atStart => exact ⟨0, _, Nat.zero_le _, rfl, HI0, fi2_start _ _⟩
  case round =>
    clear HI0
    obtain ⟨i, p, hiq, rfl, HI, HFI⟩ := hrel
    by_cases hlt : i < q
    · have hRL := HRL.out.keep (w' := wr) (fun b hb => HI.out.keep b hb.2 (by have := HSZ.out.1; omega))
      obtain ⟨b, off, rfl, -, hc⟩ := hRL.at_ (k := i) (by rw [HQR.out]; exact hlt)
      obtain ⟨Ak, ck, k3, r3, -⟩ := hc i (by rw [HQR.out]; exact hlt)
      have hfa : (facesL mt)[i]'(by rw [HQQ.out]; exact hlt) = fa mt i := (fa_eq (by rw [HQQ.out]; exact hlt)).symm
      rw [rows_getD (by rw [HQQ.out]; exact hlt), hfa] at k3 r3
      rw [ints_length] at k3
      have HR7 := Lib.hid r3
      have HI7 := HI
      obtain ⟨l, hl⟩ : ∃ l, (fa mt i).length = l := ⟨_, rfl⟩
      have hlb : l ≤ mt.length := by
        obtain ⟨r, hr, e⟩ := face_at (mt := mt) (k := i) (by rw [HQQ.out]; exact hlt)
        rw [← hl, ← hfa, e]
        exact cyc_length_le HP.out hr
      rw [hl] at k3
      have HLL := Lib.hid hl
      clear hc hRL hfa hl r3
      go_wp2_with fail
      clear k3
      obtain ⟨w7, rfl⟩ : ∃ x : World, x = wr := ⟨_, rfl⟩
      go_loopw [37] (fun j' wr => ∃ (j : Nat) (p : List Int), j ≤ l ∧ j' = .int .i64 j ∧ Hid (InSt w5 wr (w2.heap.size + 1) mt.length p) ∧ Hid (FI2 mt i j p)) (fun j' _ => l - (intOf j').toNat)
      case atStart => exact ⟨0, p, Nat.zero_le _, rfl, HI, HFI⟩
      case round =>
        clear HI HFI
        obtain ⟨j, p, hj, rfl, HI, HFI⟩ := hrel
        by_cases hjl : j < l
        · have hiq2 : i < (facesL mt).length := by rw [HQQ.out]; exact hlt
          have hjf : j < (fa mt i).length := by rw [HLL.out]; exact hjl
          have hr := HR7.out.keep (w' := wr) (fun b hb => (HI.out.keep b hb.2 (by have := HSZ.out.1; omega)).trans (HI7.out.keep b hb.2 (by have := HSZ.out.1; omega)).symm)
          obtain ⟨b2, off2, rfl, -, hc⟩ := hr.at_ (k := j) (by rw [ints_length]; exact hjf)
          have k4 := hc j (by rw [ints_length]; exact hjf)
          rw [gi_ints hjf, gN_lt hjf] at k4
          have hst := fi2_step HP.out hiq2 hjf HI.out.len HFI.out
          have hxl := fa_lt HP.out hiq2 (List.getElem_mem hjf)
          obtain ⟨x, hx⟩ : ∃ x, (fa mt i)[j] = x := ⟨_, rfl⟩
          rw [hx] at k4 hst hxl
          obtain ⟨k5, k6⟩ := HI.out.at_ hxl
          have HI' := Lib.hid (HI.out.store x (i : Int))
          have HF' := Lib.hid hst
          clear hr hc hst hx hjf hiq2
          go_wp2_with fail
          go_roundw
          case rel => exact ⟨j + 1, _, by omega, by go_num, HI', HF'⟩
          case measure => simp [intOf]; omega
        · obtain rfl : l = j := by omega
          have HF2 : Hid (FI2 mt (i + 1) 0 p) := fi2_next (by rw [HLL.out]; exact HFI.out)
          clear HFI hjl
          go_wp2_with fail
          go_roundw
          case rel => exact ⟨i + 1, p, by omega, by go_num, HI, HF2⟩
          case measure => simp [intOf]; omega
    · obtain rfl : q = i := by omega
      have hs6 := HSZ.out
      have hs7 := HI.out.bel.size
      have hbr := HB25.out.trans (HI.out.bel.mono (by omega))
      have HC6 : Hid (IcC wr A1 A2 c1 c2 sg mt L w.heap.size w2.heap.size gp (w2.heap.size + 1) p) := by
        refine ⟨HD2.out.below hbr, ?_, fun x hx => ?_, fun x hx => (HI.out.at_ hx).1, ⟨by omega, fun h0 => ⟨by have := HGS.out h0; omega, by omega⟩⟩⟩
        · exact (World.cell?_of_block (a := ⟨w2.heap.size, 0, none⟩) (HI.out.keep w2.heap.size (by omega) (by omega))).trans HV5.out
        · obtain ⟨-, -, hg5, -, hcell, -⟩ := HN2.out.ints_at (by rw [numsL_length]; omega)
          have := hcell x (by rw [numsL_length]; exact hx)
          rw [gi_numsL hx] at this
          exact (hbr.cell (p := ⟨gp, x, none⟩) hg5).trans this
      rw [← HQQ.out] at HFI
      have HB6 := Lib.hid (HB2.out.trans (hbr.mono HB2.out.size))
      have HQ0 : Hid (GqSt wr wr (.slice none 0 0) (incL sg mt 0)) := ⟨Below.refl _ _, OP.nil _ _⟩
      obtain ⟨w6, rfl⟩ : ∃ x : World, x = wr := ⟨_, rfl⟩
      clear hs6 hs7 hbr HI HRL HD5 HV5 HU5 HB25 hlt hiq
      go_wp2_with fail
      go_loopw [11, 50] (fun v i wr => ∃ h : Nat, h ≤ mt.length ∧ i = .int .i64 h ∧ Hid (GqSt w6 wr v (incL sg mt h))) (fun _ i _ => mt.length - (intOf i).toNat)
      case atStart => exact ⟨0, Nat.zero_le _, rfl, HQ0⟩
      case round =>
        clear HQ0
        obtain ⟨h, hh, rfl, HQ⟩ := hrel
        by_cases hhl : h < mt.length
        · have HQ1 : Hid (GqSt w6 wr u11 (incL sg mt h ++ incR sg mt h (h + 1))) := by
            rw [incR_skip sg mt h (h + 1) (Nat.le_refl _), List.append_nil]; exact HQ.out
          clear HQ
          go_wp2_with fail
          obtain ⟨w7, rfl⟩ : ∃ x : World, x = wr := ⟨_, rfl⟩
          go_loopw [11, 13] (fun v i wr => ∃ k : Nat, h + 1 ≤ k ∧ k ≤ mt.length ∧ i = .int .i64 k ∧ Hid (GqSt w6 wr v (incL sg mt h ++ incR sg mt h k))) (fun _ i _ => mt.length - (intOf i).toNat)
          case atStart => exact ⟨h + 1, by omega, by omega, by go_num, HQ1⟩
          case round =>
            clear HQ1
            obtain ⟨k, hk1, hk, rfl, HQ⟩ := hrel
            by_cases hkl : k < mt.length
            · have hC := HC6.out.below HQ.out.bl
              have m0 := hC.vb
              have n1 := hC.nu h hhl
              have n2 := hC.nu k hkl
              have f1 := hC.fc h hhl
              have f2 := hC.fc k hkl
              have HC := Lib.hid hC
              have hn1 : (0 ≤ numI (nxC sg mt) mt.length (outB sg) h) ↔ outB sg h = true := by
                unfold numI; split
                · rename_i ho; exact ⟨fun _ => ho, fun _ => by omega⟩
                · rename_i ho; exact ⟨fun h => by omega, fun h => absurd h ho⟩
              have hn2 : (0 ≤ numI (nxC sg mt) mt.length (outB sg) k) ↔ outB sg k = true := by
                unfold numI; split
                · rename_i ho; exact ⟨fun _ => ho, fun _ => by omega⟩
                · rename_i ho; exact ⟨fun h => by omega, fun h => absurd h ho⟩
              obtain ⟨x1, hx1⟩ : ∃ x, numI (nxC sg mt) mt.length (outB sg) h = x := ⟨_, rfl⟩
              obtain ⟨x2, hx2⟩ : ∃ x, numI (nxC sg mt) mt.length (outB sg) k = x := ⟨_, rfl⟩
              rw [hx1] at n1 hn1
              rw [hx2] at n2 hn2
              clear hC hx1 hx2
              by_cases hal : outB sg h = outB sg k
              · have s1 : (decide (0 ≤ x1) == decide (0 ≤ x2)) = true := by
                  cases h1 : outB sg h <;> cases h2 : outB sg k <;> simp [hn1, hn2, h1, h2] at hal ⊢
                clear hn1 hn2
                by_cases hfe : gi p h = gi p k
                · have e3 : (gi p h == gi p k) = true := by rw [beq_iff_eq]; exact hfe
                  obtain ⟨m1, hm1'⟩ : ∃ m, ceN sg mt h = m := ⟨_, rfl⟩
                  obtain ⟨m2, hm2'⟩ : ∃ m, ceN sg mt k = m := ⟨_, rfl⟩
                  have M1 := Lib.hid hm1'
                  have M2 := Lib.hid hm2'
                  clear hm1' hm2'
                  by_cases hme : m1 = m2
                  · have e : incR sg mt h (k + 1) = incR sg mt h k := by
                      show incR sg mt h k ++ _ = _
                      rw [if_neg (fun hc => by unfold incB at hc; rw [show decide (ceN sg mt h ≠ ceN sg mt k) = false from decide_eq_false (fun hne => hne (by rw [M1.out, M2.out]; exact hme))] at hc; simp at hc), List.append_nil]
                    have HIE := Lib.hid e
                    clear e
                    obtain rfl := hme
                    go_wp2_with fail
                    go_quiet (fail)
                    obtain ⟨wq, hwq⟩ : ∃ wq, wr.drewN nq = wq := ⟨_, rfl⟩
                    rw [hwq]
                    have hbq : Below wr.heap.size wr wq := by rw [← hwq]; exact below_drewN (Below.refl _ _) _
                    have HCq := Lib.hid (HC.out.below hbq)
                    have HQq := Lib.hid (HQ.out.call hbq)
                    clear hwq hbq m0 n1 n2 f1 f2 HC HQ
                    have f1 := HCq.out.fc h hhl
                    have f2 := HCq.out.fc k hkl
                    have HNX : Hid (∀ n, GqSt w6 (wq.drewN n) u11 (incL sg mt h ++ incR sg mt h (k + 1))) := fun n => by
                      rw [HIE.out]
                      exact HQq.out.call (below_drewN (Below.refl _ _) n)
                    go_wp2_with fail
                    go_quiet (first | (go_at_call 48; with_reducible (show Calls _ _ #[Value.int .i64 (h : Int), _, _] _ _); exact Calls.quiet_of (incQ HCq.out _ H.out hhl rfl _ M1.out)) | (go_at_call 48; with_reducible (show Calls _ _ #[Value.int .i64 (k : Int), _, _] _ _); exact Calls.quiet_of (incQ HCq.out _ H.out hkl rfl _ M2.out)))
                    go_wp2_with fail
                    go_roundw
                    case rel => exact ⟨k + 1, by omega, by omega, by go_num, Lib.hid (HNX.out _)⟩
                    case measure => simp [intOf]; omega
                  · have e : incR sg mt h (k + 1) = incR sg mt h k ++ [((h : Int), (k : Int))] := by
                      show incR sg mt h k ++ _ = _
                      rw [if_pos ⟨by omega, by unfold incB; rw [decide_eq_true ((fi2_same HP.out HFI.out hhl hkl).1 hfe), beq_iff_eq.2 hal, decide_eq_true (by rw [M1.out, M2.out]; exact hme)]; rfl⟩]
                    have HE := Lib.hid e
                    have hlen : (incL sg mt h ++ incR sg mt h k).length < 1099511627776 := by
                      have h1 := incL_len sg mt h
                      have h2 := incR_len sg mt h k
                      have h3 : h * mt.length ≤ 256 * 256 := Nat.mul_le_mul (by omega) h256
                      rw [List.length_append]
                      omega
                    have HLE := Lib.hid hlen
                    have e4 : ((m1 : Int) != (m2 : Int)) = true := by rw [bne_iff_ne]; omega
                    clear e hlen hme
                    go_wp2_with fail
                    go_quiet (fail)
                    obtain ⟨wq, hwq⟩ : ∃ wq, wr.drewN nq = wq := ⟨_, rfl⟩
                    rw [hwq]
                    have hbq : Below wr.heap.size wr wq := by rw [← hwq]; exact below_drewN (Below.refl _ _) _
                    have HCq := Lib.hid (HC.out.below hbq)
                    have HQq := Lib.hid (HQ.out.call hbq)
                    clear hwq hbq m0 n1 n2 f1 f2 HC HQ
                    have f1 := HCq.out.fc h hhl
                    have f2 := HCq.out.fc k hkl
                    go_wp2_with fail
                    go_quiet (first | (go_at_call 48; with_reducible (show Calls _ _ #[Value.int .i64 (h : Int), _, _] _ _); exact Calls.quiet_of (incQ HCq.out _ H.out hhl rfl _ M1.out)) | (go_at_call 48; with_reducible (show Calls _ _ #[Value.int .i64 (k : Int), _, _] _ _); exact Calls.quiet_of (incQ HCq.out _ H.out hkl rfl _ M2.out)))
                    go_wp2_with (at_builtin; refine app_pair (HQq.out.call (below_drewN (Below.refl _ _) _)).op HLE.out (HQq.out.call (below_drewN (Below.refl _ _) _)).bl.size rfl rfl Try.underlying36 rfl rfl ?_; intro v8 w8 ho8 hg8 hob8)
                    have HQ8 := Lib.hid (GqSt.push (p := ((h : Int), (k : Int))) ((HQq.out.call (below_drewN (Below.refl _ _) _)).alloc _) ho8 hg8)
                    rw [List.append_assoc, ← HE.out] at HQ8
                    clear ho8 hg8 hob8
                    go_roundw
                    case rel => exact ⟨k + 1, by omega, by omega, by go_num, HQ8⟩
                    case measure => simp [intOf]; omega
                · have e : incR sg mt h (k + 1) = incR sg mt h k := by
                    show incR sg mt h k ++ _ = _
                    rw [if_neg (fun hc => by unfold incB at hc; rw [show decide (k ∈ cyc (nxF mt) mt.length h) = false from decide_eq_false (fun hm => hfe ((fi2_same HP.out HFI.out hhl hkl).2 hm))] at hc; simp at hc), List.append_nil]
                  have HIE := Lib.hid e
                  clear e
                  have e3 : (gi p h == gi p k) = false := by rw [beq_eq_false_iff_ne]; exact hfe
                  clear hfe
                  go_wp2_with fail
                  go_quiet (fail)
                  obtain ⟨wq, hwq⟩ : ∃ wq, wr.drewN nq = wq := ⟨_, rfl⟩
                  rw [hwq]
                  have hbq : Below wr.heap.size wr wq := by rw [← hwq]; exact below_drewN (Below.refl _ _) _
                  have HCq := Lib.hid (HC.out.below hbq)
                  have HQq := Lib.hid (HQ.out.call hbq)
                  clear hwq hbq m0 n1 n2 f1 f2 HC HQ
                  have f1 := HCq.out.fc h hhl
                  have f2 := HCq.out.fc k hkl
                  have HNX : Hid (∀ n, GqSt w6 (wq.drewN n) u11 (incL sg mt h ++ incR sg mt h (k + 1))) := fun n => by
                    rw [HIE.out]
                    exact HQq.out.call (below_drewN (Below.refl _ _) n)
                  go_wp2_with fail
                  go_quiet (fail)
                  go_wp2_with fail
                  go_roundw
                  case rel => exact ⟨k + 1, by omega, by omega, by go_num, Lib.hid (HNX.out _)⟩
                  case measure => simp [intOf]; omega
              · have s1 : (decide (0 ≤ x1) == decide (0 ≤ x2)) = false := by
                  cases h1 : outB sg h <;> cases h2 : outB sg k <;> simp [hn1, hn2, h1, h2] at hal ⊢
                clear hn1 hn2
                have e : incR sg mt h (k + 1) = incR sg mt h k := by
                  show incR sg mt h k ++ _ = _
                  rw [if_neg (fun hc => by unfold incB at hc; rw [beq_eq_false_iff_ne.2 hal] at hc; simp at hc), List.append_nil]
                have HIE := Lib.hid e
                clear e
                clear hal
                go_wp2_with fail
                go_quiet (fail)
                obtain ⟨wq, hwq⟩ : ∃ wq, wr.drewN nq = wq := ⟨_, rfl⟩
                rw [hwq]
                have hbq : Below wr.heap.size wr wq := by rw [← hwq]; exact below_drewN (Below.refl _ _) _
                have HCq := Lib.hid (HC.out.below hbq)
                have HQq := Lib.hid (HQ.out.call hbq)
                clear hwq hbq m0 n1 n2 f1 f2 HC HQ
                have f1 := HCq.out.fc h hhl
                have f2 := HCq.out.fc k hkl
                have HNX : Hid (∀ n, GqSt w6 (wq.drewN n) u11 (incL sg mt h ++ incR sg mt h (k + 1))) := fun n => by
                  rw [HIE.out]
                  exact HQq.out.call (below_drewN (Below.refl _ _) n)
                go_wp2_with fail
                go_quiet (fail)
                go_wp2_with fail
                go_roundw
                case rel => exact ⟨k + 1, by omega, by omega, by go_num, Lib.hid (HNX.out _)⟩
                case measure => simp [intOf]; omega
            · obtain rfl : mt.length = k := by omega
              clear hkl hk
              go_wp2_with fail
              go_roundw
              case rel => exact ⟨h + 1, by omega, by go_num, HQ⟩
              case measure => simp [intOf]; omega
        · obtain rfl : mt.length = h := by omega
          have HB9 := Lib.hid (HB6.out.trans (HQ.out.bl.mono HB6.out.size))
          have HO9 := Lib.hid (HQ.out.op.mono HB6.out.size)
          clear HQ hhl
          go_wp2_with fail
          go_ret
          exact ⟨_, rfl, HO9.out, HB9.out⟩
end
end Go.Proofs.Ytaghemilihaiaaa

