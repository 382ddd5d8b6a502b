/-
  The contract of diagram.Graph.
-/
import Derived.Test.YtaghemilihaiaaaGraphM
import Derived.Test.YtaghemilihaiaaaComp
namespace Go.Proofs.Ytaghemilihaiaaa
open Go.RowKit

/-- what the groups hold when k crossings are shared out -/
def grpL (mt : List Int) (n q k : Nat) : List (List Int) := (List.range q).map fun p => ints (membP mt n p k)
theorem grpL_length (mt : List Int) (n q k : Nat) : (grpL mt n q k).length = q := by simp [grpL]
theorem grpL_getD {mt : List Int} {n q k p : Nat} (hp : p < q) : (grpL mt n q k).getD p [] = ints (membP mt n p k) := by simp [grpL, hp]
theorem grpL_zero (mt : List Int) (n q : Nat) : grpL mt n q 0 = List.replicate q [] := by
  apply List.ext_getElem
  · simp [grpL]
  · intro i h1 h2
    simp [grpL, membP, ints]
theorem grpL_step {mt : List Int} {n q k : Nat} (hp : idxAt mt n (labAt mt n k) < q) :
    (grpL mt n q k).set (idxAt mt n (labAt mt n k)) ((grpL mt n q k).getD (idxAt mt n (labAt mt n k)) [] ++ [(k : Int)]) = grpL mt n q (k + 1) := by
  rw [grpL_getD hp]
  apply List.ext_getElem
  · simp [grpL]
  · intro i h1 h2
    rw [grpL_length] at h2
    by_cases e : i = idxAt mt n (labAt mt n k)
    · subst e
      rw [List.getElem_set_self]
      simp only [grpL, List.getElem_map, List.getElem_range]
      rw [membP_succ, if_pos rfl, ints_append]
      rfl
    · rw [List.getElem_set_ne (fun e' => e e'.symm)]
      simp only [grpL, List.getElem_map, List.getElem_range]
      rw [membP_succ, if_neg (fun e' => e e'.symm), List.append_nil]
theorem grpL_end {mt : List Int} (hI : InvM mt) {n : Nat} (hn : mt.length = 4 * n) : grpL mt n (idxAt mt n n) n = rows (graphL mt n) := by
  rw [← graphL_idx hI hn]
  unfold grpL rows
  rw [List.map_map]
  rfl

section
variable (A1 A2 : Option Addr) (c1 c2 : Nat) (sg mt : List Int) (L : Int) (w : World) (S : Nat → Prop) (hx : RI w S A1 sg) (hy : RI w S A2 mt) (hS : ∀ b, S b → b < w.heap.size)
include hx hy hS

set_option maxHeartbeats 1000000 in
theorem graph_no (hm1 : sg.length ≤ maxLen) (hm2 : mt.length ≤ maxLen) (hno : ¬ IsD sg mt L) :
    Calls Try.prog 39 #[.agg #[.slice A1 sg.length c1, .slice A2 mt.length c2, .int .i64 L]] w fun e w' => e = .returned (.slice none 0 0) ∧ Below w.heap.size w w' := by
  have HD := Lib.hid (DBox.start (c1 := c1) (c2 := c2) (L := L) S hx hy hS)
  have H := Lib.hid (decide_eq_false hno)
  clear hx hy hS hno
  go_enter Try.func39, Try.ntmps39
  go_wp2_with fail
  refine (dvalid_is _ false HD.out.rs HD.out.rm (fun _ h => h) hm1 hm2 H.out).mono ?_
  rintro e w1 ⟨rfl, hb1⟩
  go_wp2_with fail
  go_ret
  exact ⟨rfl, below_box (by simpa using hb1)⟩

set_option maxHeartbeats 2000000 in
theorem graph_ok (hd : IsD sg mt L) :
    Calls Try.prog 39 #[.agg #[.slice A1 sg.length c1, .slice A2 mt.length c2, .int .i64 L]] w fun e w' => ∃ v, e = .returned v ∧ RR 22 w' w.heap.size (fun _ => False) v (rows (graphL mt sg.length)) ∧ Below w.heap.size w w' := by
  have HD := Lib.hid (DBox.start (c1 := c1) (c2 := c2) (L := L) S hx hy hS)
  have H := Lib.hid hd
  obtain ⟨h1, h2, -, -, -, h6, -, -⟩ := hd
  have hm1 : sg.length ≤ maxLen := by unfold maxLen; omega
  have hm2 : mt.length ≤ maxLen := by unfold maxLen; omega
  have HI := Lib.hid h6
  have HN := Lib.hid h2
  obtain ⟨q, hq⟩ : ∃ q, idxAt mt sg.length sg.length = q := ⟨_, rfl⟩
  have hqn : q ≤ sg.length := by rw [← hq]; exact idxN_le _ _
  have HQ := Lib.hid hq
  have hmk := make_rows 27 Try.underlying27 q (by omega)
  clear hx hy hS h6 h2 hq
  go_enter Try.func39, Try.ntmps39
  go_wp2_with fail
  refine (dvalid_is _ true HD.out.rs HD.out.rm (fun _ h => h) hm1 hm2 (decide_eq_true H.out)).mono ?_
  rintro e w1 ⟨rfl, hb1⟩
  have HD1 := Lib.hid (HD.out.below hb1)
  have k0 := HD1.out.c0
  have k1 := HD1.out.c1
  have k2 := HD1.out.c2
  have HB1 := Lib.hid (below_box (o := .cells #[.slice A1 sg.length c1, .slice A2 mt.length c2, .int .i64 L] 24) (by simpa using hb1))
  have hs1 := HB1.out.size
  clear hb1 HD
  go_wp2_with fail
  refine (label_any A1 A2 c1 c2 sg.length mt L w1 (· < w1.heap.size) HD1.out.rm (fun _ h => h) HN.out HI.out (by omega)).mono ?_
  rintro e w2 ⟨v, rfl, ho2, hb2⟩
  rw [HQ.out]
  have HB2 := Lib.hid (HB1.out.trans (hb2.mono hs1))
  have hs2 := HB2.out.size
  obtain ⟨A3, c3, rfl, -, -, hr3⟩ := ho2.reads
  rw [partL_length]
  have HR3 := Lib.hid (hr3.imp (T := (· < w2.heap.size)) fun b hb => hb.2)
  have hg0 := GRow.start w2 q (by unfold maxLen; omega)
  rw [← grpL_zero mt sg.length q] at hg0
  have HG0 := Lib.hid hg0
  have hbn := (Below.refl w2.heap.size w2).alloc (Nat.le_refl _) (.cells (Array.replicate q (Value.slice none 0 0)) 22)
  have HBN := Lib.hid hbn
  have h64 : sg.length ≤ 64 := h1
  clear ho2 hb2 hr3 k0 k1 k2 hg0 hbn HB1 HD1 hm1 hm2
  go_wp2_with fail
  clear hmk
  go_loopw [20] (fun i wr => ∃ (k : Nat) (vs : List Value), k ≤ sg.length ∧ i = .int .i64 k ∧ Hid (GRow wr w2.heap.size w2.heap.size vs (grpL mt sg.length q k)) ∧ Hid (Below w2.heap.size w2 wr)) (fun i _ => sg.length - (intOf i).toNat)
  case atStart => exact ⟨0, _, Nat.zero_le _, rfl, HG0, HBN⟩
  case round =>
    clear HG0 HBN
    obtain ⟨k, vs, hk, rfl, HG, HB⟩ := hrel
    have hvl : vs.length = q := by rw [HG.out.len, grpL_length]
    have HVL := Lib.hid hvl
    clear hvl
    by_cases hlt : k < sg.length
    · have hp := part_lt HI.out HN.out hlt
      rw [HQ.out] at hp
      obtain ⟨b, off, rfl, hbb, hc⟩ := (HR3.out.below HB.out).at_ (k := k) (by rw [partL_length]; exact hlt)
      have k1 := hc k (by rw [partL_length]; exact hlt)
      rw [gi_partL hlt] at k1
      obtain ⟨p, hpe⟩ : ∃ p, idxAt mt sg.length (labAt mt sg.length k) = p := ⟨_, rfl⟩
      have HPE := Lib.hid hpe
      rw [hpe] at hp k1
      have hpv : p < vs.length := by rw [HVL.out]; exact hp
      obtain ⟨k2, k3, hgs⟩ := HG.out.at_ hpv
      obtain ⟨u, hu⟩ : ∃ u, vs[p] = u := ⟨_, rfl⟩
      rw [hu] at k2
      have HU := Lib.hid hu
      have hou : OI wr w2.heap.size u (ints (membP mt sg.length p k)) := by
        have := HG.out.row p hpv
        rw [hu, grpL_getD hp] at this
        exact this
      have HOU := Lib.hid hou
      have hul : (ints (membP mt sg.length p k)).length < 1099511627776 := by
        have : (membP mt sg.length p k).length ≤ k := by
          unfold membP
          have := List.length_filter_le (fun b => decide (idxAt mt sg.length (labAt mt sg.length b) = p)) (List.range k)
          simpa using this
        rw [ints_length]
        omega
      have HUL := Lib.hid hul
      have hfar : ∀ g, u.ownBlock = some g → g ≠ w2.heap.size := fun g hg => HG.out.far p hpv g (by rw [hu]; exact hg)
      have HFAR := Lib.hid hfar
      have hsz := HB.out.size
      clear hc hpe hu hou hul hfar
      go_wp2_with (at_builtin; refine app1 HOU.out HUL.out hsz rfl rfl Try.underlying22 rfl rfl ?_; intro v' w' ho hg hob; have hblk := grown_alloc_block hg hgs (fun e => HFAR.out _ e.symm rfl); have k4 := (World.cell?_of_block (a := ⟨w2.heap.size, p, none⟩) hblk).trans k2; have k5 := (World.frozen?_of_block (a := ⟨w2.heap.size, p, none⟩) hblk).trans k3; obtain ⟨A', c', rfl, _, _, _⟩ := ho.shape)
      have hpush := GRow.push (p := p) (y := (k : Int)) HG.out hpv hgs (by rw [grpL_getD hp]; exact ho) (by rw [HU.out]; exact hg) (by rw [HU.out]; exact hob)
      have hstep := grpL_step (mt := mt) (n := sg.length) (q := q) (k := k) (by rw [HPE.out]; exact hp)
      rw [HPE.out] at hstep
      rw [hstep] at hpush
      have HPUSH := Lib.hid hpush
      have HBN := Lib.hid ((HOU.out.grown_below HB.out hsz _ hg).setCell (p := ⟨w2.heap.size, p, none⟩) (Nat.le_refl _) (.slice A' (ints (membP mt sg.length p k) ++ [(k : Int)]).length c'))
      rw [List.length_append, List.length_singleton] at HPUSH HBN
      clear hpush hstep ho hg hob hblk k4 k5
      go_roundw
      case rel => exact ⟨k + 1, _, by omega, by go_num, HPUSH, HBN⟩
      case measure => simp [intOf]; omega
    · obtain rfl : sg.length = k := by omega
      have hr := HG.out.rr
      rw [HVL.out] at hr
      have hge := grpL_end HI.out HN.out
      rw [HQ.out] at hge
      rw [hge] at hr
      have HR := Lib.hid (hr.mono hs2)
      have HBF := Lib.hid (HB2.out.trans (HB.out.mono hs2))
      clear hr hge hlt
      go_wp2_with fail
      go_ret
      exact ⟨_, rfl, HR.out, HBF.out⟩
end
end Go.Proofs.Ytaghemilihaiaaa

