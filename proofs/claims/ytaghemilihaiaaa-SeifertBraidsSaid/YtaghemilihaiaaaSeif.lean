/-
  The contracts of seifert.Circles, Euler and Genus.
-/
import Derived.Test.YtaghemilihaiaaaCircW
import Derived.Test.YtaghemilihaiaaaGraph
namespace Go.Proofs.Ytaghemilihaiaaa
open Go.RowKit

section
variable (A1 A2 : Option Addr) (c1 c2 : Nat) (sg mt : List Int) (L : Int) (w : World) (S : Nat → Prop) (hx : RI w S A1 sg) (hy : RI w S A2 mt) (hS : ∀ b, S b → b < w.heap.size)
include hx hy hS

set_option maxHeartbeats 1000000 in
theorem scirc_no (hm1 : sg.length ≤ maxLen) (hm2 : mt.length ≤ maxLen) (hno : ¬ IsD sg mt L) :
    Calls Try.prog 13 #[.agg #[.slice A1 sg.length c1, .slice A2 mt.length c2, .int .i64 L]] w fun e w' => e = .returned (.tuple #[.slice none 0 0, .int .i64 1]) ∧ Below w.heap.size w w' := by
  have HD := Lib.hid (DBox.start (c1 := c1) (c2 := c2) (L := L) S hx hy hS)
  have H := Lib.hid (decide_eq_false hno)
  clear hx hy hS hno
  go_enter Try.func13, Try.ntmps13
  go_wp2_with fail
  refine (dvalid_is _ false HD.out.rs HD.out.rm (fun _ h => h) hm1 hm2 H.out).mono ?_
  rintro e w1 ⟨rfl, hb1⟩
  go_wp2_with fail
  go_ret2
  exact ⟨rfl, below_box (by simpa using hb1)⟩

set_option maxHeartbeats 1000000 in
theorem scirc_ok (hd : IsD sg mt L) :
    Calls Try.prog 13 #[.agg #[.slice A1 sg.length c1, .slice A2 mt.length c2, .int .i64 L]] w fun e w' => ∃ v, e = .returned (.tuple #[v, .int .i64 0]) ∧ RR 22 w' w.heap.size (fun _ => False) v (rows (circL sg mt)) ∧ Below w.heap.size w w' := by
  have HD := Lib.hid (DBox.start (c1 := c1) (c2 := c2) (L := L) S hx hy hS)
  have H := Lib.hid hd
  obtain ⟨h1, h2, h3, h4, -, h6, -, -⟩ := hd
  have hm1 : sg.length ≤ maxLen := by unfold maxLen; omega
  have hm2 : mt.length ≤ maxLen := by unfold maxLen; omega
  clear hx hy hS h6 h2
  go_enter Try.func13, Try.ntmps13
  go_wp2_with fail
  refine (dvalid_is _ true HD.out.rs HD.out.rm (fun _ h => h) hm1 hm2 (decide_eq_true H.out)).mono ?_
  rintro e w1 ⟨rfl, hb1⟩
  have HD1 := Lib.hid (HD.out.below hb1)
  have k0 := HD1.out.c0
  have k1 := HD1.out.c1
  have k2 := HD1.out.c2
  have HB1 := Lib.hid (below_box (o := (.cells #[.slice A1 sg.length c1, .slice A2 mt.length c2, .int .i64 L] 24)) (by simpa using hb1))
  have hs1 := HB1.out.size
  clear hb1 HD
  go_wp2_with fail
  refine (circles_any A1 A2 c1 c2 sg mt L w1 (· < w1.heap.size) HD1.out.rs HD1.out.rm (fun _ h => h) H.out).mono ?_
  rintro e w2 ⟨v, rfl, hr, -, hb2⟩
  have HR := Lib.hid ((hr.mono (Nat.le_trans hs1 (Nat.le_succ _))).imp (F' := fun _ => False) fun _ _ _ h => h.elim)
  have HB2 := Lib.hid (HB1.out.trans (hb2.mono hs1))
  clear hr hb2 k0 k1 k2
  go_wp2_with fail
  go_ret2
  exact ⟨_, rfl, HR.out, HB2.out⟩

set_option maxHeartbeats 1000000 in
theorem seuler_no (hm1 : sg.length ≤ maxLen) (hm2 : mt.length ≤ maxLen) (hno : ¬ IsD sg mt L) :
    Calls Try.prog 17 #[.agg #[.slice A1 sg.length c1, .slice A2 mt.length c2, .int .i64 L]] w fun e w' => e = .returned (.tuple #[.int .i64 0, .int .i64 1]) ∧ Below w.heap.size w w' := by
  have HD := Lib.hid (DBox.start (c1 := c1) (c2 := c2) (L := L) S hx hy hS)
  have H := Lib.hid (decide_eq_false hno)
  clear hx hy hS hno
  go_enter Try.func17, Try.ntmps17
  go_wp2_with fail
  refine (dvalid_is _ false HD.out.rs HD.out.rm (fun _ h => h) hm1 hm2 H.out).mono ?_
  rintro e w1 ⟨rfl, hb1⟩
  go_wp2_with fail
  go_ret2
  exact ⟨rfl, below_box (by simpa using hb1)⟩

set_option maxHeartbeats 1000000 in
theorem seuler_ok (hd : IsD sg mt L) :
    Calls Try.prog 17 #[.agg #[.slice A1 sg.length c1, .slice A2 mt.length c2, .int .i64 L]] w fun e w' => e = .returned (.tuple #[.int .i64 (((circL sg mt).length : Int) + L - sg.length), .int .i64 0]) ∧ Below w.heap.size w w' := by
  have HD := Lib.hid (DBox.start (c1 := c1) (c2 := c2) (L := L) S hx hy hS)
  have H := Lib.hid hd
  obtain ⟨h1, h2, h3, h4, -, h6, -, -⟩ := hd
  have hm1 : sg.length ≤ maxLen := by unfold maxLen; omega
  have hm2 : mt.length ≤ maxLen := by unfold maxLen; omega
  have hcl : (circL sg mt).length ≤ 400 := by
    have := cycsL_len (nxC sg mt) mt.length (outB sg) mt.length
    rw [rows_cycs_length] at this
    unfold circL
    omega
  clear hx hy hS h6 h2
  go_enter Try.func17, Try.ntmps17
  go_wp2_with fail
  refine (dvalid_is _ true HD.out.rs HD.out.rm (fun _ h => h) hm1 hm2 (decide_eq_true H.out)).mono ?_
  rintro e w1 ⟨rfl, hb1⟩
  have HD1 := Lib.hid (HD.out.below hb1)
  have k0 := HD1.out.c0
  have k1 := HD1.out.c1
  have k2 := HD1.out.c2
  have HB1 := Lib.hid (below_box (o := (.cells #[.slice A1 sg.length c1, .slice A2 mt.length c2, .int .i64 L] 24)) (by simpa using hb1))
  have hs1 := HB1.out.size
  clear hb1 HD
  go_wp2_with fail
  refine (circles_any A1 A2 c1 c2 sg mt L w1 (· < w1.heap.size) HD1.out.rs HD1.out.rm (fun _ h => h) H.out).mono ?_
  rintro e w2 ⟨v, rfl, hr, -, hb2⟩
  obtain ⟨Av, cv, rfl, -, -, -⟩ := hr.shape
  rw [rows_cycs_length]
  have HB2 := Lib.hid (HB1.out.trans (hb2.mono hs1))
  have HD2 := Lib.hid (HD1.out.below hb2)
  have k0 := HD2.out.c0
  have k2 := HD2.out.c2
  clear hr hb2 k1 HD1 HB1
  go_wp2_with fail
  go_ret2
  exact ⟨rfl, HB2.out⟩

set_option maxHeartbeats 1000000 in
theorem sgenus_no (hm1 : sg.length ≤ maxLen) (hm2 : mt.length ≤ maxLen) (hno : ¬ IsD sg mt L) :
    Calls Try.prog 18 #[.agg #[.slice A1 sg.length c1, .slice A2 mt.length c2, .int .i64 L]] w fun e w' => e = .returned (.tuple #[.int .i64 0, .int .i64 1]) ∧ Below w.heap.size w w' := by
  have HD := Lib.hid (DBox.start (c1 := c1) (c2 := c2) (L := L) S hx hy hS)
  have H := Lib.hid hno
  clear hx hy hS hno
  go_enter Try.func18, Try.ntmps18
  go_wp2_with fail
  refine (seuler_no A1 A2 c1 c2 sg mt L _ (· < (w.alloc (.cells #[.slice A1 sg.length c1, .slice A2 mt.length c2, .int .i64 L] 24)).heap.size) HD.out.rs HD.out.rm (fun _ h => h) hm1 hm2 H.out).mono ?_
  rintro e w1 ⟨rfl, hb1⟩
  go_wp2_with fail
  go_ret2
  exact ⟨rfl, below_box (by simpa using hb1)⟩

set_option maxHeartbeats 2000000 in
theorem sgenus_empty (hd : IsD sg mt L) (hp : (graphL mt sg.length).length + L = 0) :
    Calls Try.prog 18 #[.agg #[.slice A1 sg.length c1, .slice A2 mt.length c2, .int .i64 L]] w fun e w' => e = .returned (.tuple #[.int .i64 0, .int .i64 8]) ∧ Below w.heap.size w w' := by
  have HD := Lib.hid (DBox.start (c1 := c1) (c2 := c2) (L := L) S hx hy hS)
  have H := Lib.hid hd
  obtain ⟨h1, h2, h3, h4, -, h6, -, -⟩ := hd
  have hm1 : sg.length ≤ maxLen := by unfold maxLen; omega
  have hm2 : mt.length ≤ maxLen := by unfold maxLen; omega
  have hcl : (circL sg mt).length ≤ 400 := by
    have := cycsL_len (nxC sg mt) mt.length (outB sg) mt.length
    rw [rows_cycs_length] at this
    unfold circL
    omega
  have hgl : (graphL mt sg.length).length ≤ 64 := by
    have e := graphL_idx h6 h2
    have : (graphL mt sg.length).length = idxAt mt sg.length sg.length := by rw [← e]; simp
    rw [this]
    have := idxN_le (labN mt sg.length) sg.length
    unfold idxAt
    omega
  have hsl := strandsL_le sg mt
  have hsl2 : (strandsL sg mt).length ≤ 400 := by omega
  obtain ⟨ex, hex⟩ : ∃ ex, ((circL sg mt).length : Int) + L - sg.length = ex := ⟨_, rfl⟩
  have hexb : -1000 ≤ ex ∧ ex ≤ 1000 := by omega
  have HEX := Lib.hid hex
  clear hx hy hS h6 h2 hsl hex
  go_enter Try.func18, Try.ntmps18
  go_wp2_with fail
  refine (seuler_ok A1 A2 c1 c2 sg mt L _ (· < (w.alloc (.cells #[.slice A1 sg.length c1, .slice A2 mt.length c2, .int .i64 L] 24)).heap.size) HD.out.rs HD.out.rm (fun _ h => h) H.out).mono ?_
  rintro e w1 ⟨rfl, hb1⟩
  rw [HEX.out]
  have HD1 := Lib.hid (HD.out.below hb1)
  have HB1 := Lib.hid (below_box (o := (.cells #[.slice A1 sg.length c1, .slice A2 mt.length c2, .int .i64 L] 24)) (by simpa using hb1))
  have hs1 := HB1.out.size
  clear hb1 HD
  go_wp2_with fail
  have hsum : IntKind.i64.wrap (((graphL mt sg.length).length : Int) + L) = ((graphL mt sg.length).length : Int) + L := IntWalk.i64_in _ (by omega)
  go_region_held3 (fun w' => Hid (DBox w' w.heap.size A1 A2 c1 c2 sg mt L) ∧ w'.cell? ⟨w.heap.size, 0, none⟩ = some (.slice A1 sg.length c1) ∧ w'.cell? ⟨w.heap.size, 1, none⟩ = some (.slice A2 mt.length c2) ∧ w'.cell? ⟨w.heap.size, 2, none⟩ = some (.int .i64 L))
    (first | exact db_mk HD1.out.drew | exact db_mk (HD1.out.drew.below hb9))
    (first
      | (go_at_call 39; ((with_reducible refine (graph_ok A1 A2 c1 c2 sg mt L w1.drew (· < w1.drew.heap.size) HD1.out.drew.rs HD1.out.drew.rm (fun _ h => h) H.out).mono ?_); rintro e9 w9 ⟨v9, rfl, hr9, hb9⟩; obtain ⟨A9, c9, rfl, -, -, -⟩ := hr9.shape; rw [rows_cycs_length])))
  have HB9 := Lib.hid (HB1.out.trans (Below.drew (Below.refl _ _) |>.trans (hb9.mono hs1)))
  have HD9 := Lib.hid (HD1.out.drew.below hb9)
  clear hb9 hr9 hsum
  go_wp2_with fail
  go_ret2
  exact ⟨rfl, HB9.out⟩

set_option maxHeartbeats 2000000 in
theorem sgenus_split (hd : IsD sg mt L) (hp : 1 < (graphL mt sg.length).length + L) :
    Calls Try.prog 18 #[.agg #[.slice A1 sg.length c1, .slice A2 mt.length c2, .int .i64 L]] w fun e w' => e = .returned (.tuple #[.int .i64 0, .int .i64 17]) ∧ Below w.heap.size w w' := by
  have HD := Lib.hid (DBox.start (c1 := c1) (c2 := c2) (L := L) S hx hy hS)
  have H := Lib.hid hd
  obtain ⟨h1, h2, h3, h4, -, h6, -, -⟩ := hd
  have hm1 : sg.length ≤ maxLen := by unfold maxLen; omega
  have hm2 : mt.length ≤ maxLen := by unfold maxLen; omega
  have hcl : (circL sg mt).length ≤ 400 := by
    have := cycsL_len (nxC sg mt) mt.length (outB sg) mt.length
    rw [rows_cycs_length] at this
    unfold circL
    omega
  have hgl : (graphL mt sg.length).length ≤ 64 := by
    have e := graphL_idx h6 h2
    have : (graphL mt sg.length).length = idxAt mt sg.length sg.length := by rw [← e]; simp
    rw [this]
    have := idxN_le (labN mt sg.length) sg.length
    unfold idxAt
    omega
  have hsl := strandsL_le sg mt
  have hsl2 : (strandsL sg mt).length ≤ 400 := by omega
  obtain ⟨ex, hex⟩ : ∃ ex, ((circL sg mt).length : Int) + L - sg.length = ex := ⟨_, rfl⟩
  have hexb : -1000 ≤ ex ∧ ex ≤ 1000 := by omega
  have HEX := Lib.hid hex
  clear hx hy hS h6 h2 hsl hex
  go_enter Try.func18, Try.ntmps18
  go_wp2_with fail
  refine (seuler_ok A1 A2 c1 c2 sg mt L _ (· < (w.alloc (.cells #[.slice A1 sg.length c1, .slice A2 mt.length c2, .int .i64 L] 24)).heap.size) HD.out.rs HD.out.rm (fun _ h => h) H.out).mono ?_
  rintro e w1 ⟨rfl, hb1⟩
  rw [HEX.out]
  have HD1 := Lib.hid (HD.out.below hb1)
  have HB1 := Lib.hid (below_box (o := (.cells #[.slice A1 sg.length c1, .slice A2 mt.length c2, .int .i64 L] 24)) (by simpa using hb1))
  have hs1 := HB1.out.size
  clear hb1 HD
  go_wp2_with fail
  have hsum : IntKind.i64.wrap (((graphL mt sg.length).length : Int) + L) = ((graphL mt sg.length).length : Int) + L := IntWalk.i64_in _ (by omega)
  go_region_held3 (fun w' => Hid (DBox w' w.heap.size A1 A2 c1 c2 sg mt L) ∧ w'.cell? ⟨w.heap.size, 0, none⟩ = some (.slice A1 sg.length c1) ∧ w'.cell? ⟨w.heap.size, 1, none⟩ = some (.slice A2 mt.length c2) ∧ w'.cell? ⟨w.heap.size, 2, none⟩ = some (.int .i64 L))
    (first | exact db_mk HD1.out.drew | exact db_mk (HD1.out.drew.below hb9))
    (first
      | (go_at_call 39; ((with_reducible refine (graph_ok A1 A2 c1 c2 sg mt L w1.drew (· < w1.drew.heap.size) HD1.out.drew.rs HD1.out.drew.rm (fun _ h => h) H.out).mono ?_); rintro e9 w9 ⟨v9, rfl, hr9, hb9⟩; obtain ⟨A9, c9, rfl, -, -, -⟩ := hr9.shape; rw [rows_cycs_length])))
  have HB9 := Lib.hid (HB1.out.trans (Below.drew (Below.refl _ _) |>.trans (hb9.mono hs1)))
  have HD9 := Lib.hid (HD1.out.drew.below hb9)
  clear hb9 hr9 hsum
  go_wp2_with fail
  go_ret2
  exact ⟨rfl, HB9.out⟩

set_option maxHeartbeats 2000000 in
theorem sgenus_ok (hd : IsD sg mt L) (hp : (graphL mt sg.length).length + L = 1) :
    Calls Try.prog 18 #[.agg #[.slice A1 sg.length c1, .slice A2 mt.length c2, .int .i64 L]] w fun e w' => e = .returned (.tuple #[.int .i64 ((2 - ((strandsL sg mt).length + L) - (((circL sg mt).length : Int) + L - sg.length)).tdiv 2), .int .i64 0]) ∧ Below w.heap.size w w' := by
  have HD := Lib.hid (DBox.start (c1 := c1) (c2 := c2) (L := L) S hx hy hS)
  have H := Lib.hid hd
  obtain ⟨h1, h2, h3, h4, -, h6, -, -⟩ := hd
  have hm1 : sg.length ≤ maxLen := by unfold maxLen; omega
  have hm2 : mt.length ≤ maxLen := by unfold maxLen; omega
  have hcl : (circL sg mt).length ≤ 400 := by
    have := cycsL_len (nxC sg mt) mt.length (outB sg) mt.length
    rw [rows_cycs_length] at this
    unfold circL
    omega
  have hgl : (graphL mt sg.length).length ≤ 64 := by
    have e := graphL_idx h6 h2
    have : (graphL mt sg.length).length = idxAt mt sg.length sg.length := by rw [← e]; simp
    rw [this]
    have := idxN_le (labN mt sg.length) sg.length
    unfold idxAt
    omega
  have hsl := strandsL_le sg mt
  have hsl2 : (strandsL sg mt).length ≤ 400 := by omega
  obtain ⟨ex, hex⟩ : ∃ ex, ((circL sg mt).length : Int) + L - sg.length = ex := ⟨_, rfl⟩
  have hexb : -1000 ≤ ex ∧ ex ≤ 1000 := by omega
  have HEX := Lib.hid hex
  clear hx hy hS h6 h2 hsl hex
  go_enter Try.func18, Try.ntmps18
  go_wp2_with fail
  refine (seuler_ok A1 A2 c1 c2 sg mt L _ (· < (w.alloc (.cells #[.slice A1 sg.length c1, .slice A2 mt.length c2, .int .i64 L] 24)).heap.size) HD.out.rs HD.out.rm (fun _ h => h) H.out).mono ?_
  rintro e w1 ⟨rfl, hb1⟩
  rw [HEX.out]
  have HD1 := Lib.hid (HD.out.below hb1)
  have HB1 := Lib.hid (below_box (o := (.cells #[.slice A1 sg.length c1, .slice A2 mt.length c2, .int .i64 L] 24)) (by simpa using hb1))
  have hs1 := HB1.out.size
  clear hb1 HD
  go_wp2_with fail
  have hsum : IntKind.i64.wrap (((graphL mt sg.length).length : Int) + L) = ((graphL mt sg.length).length : Int) + L := IntWalk.i64_in _ (by omega)
  go_region_held3 (fun w' => Hid (DBox w' w.heap.size A1 A2 c1 c2 sg mt L) ∧ w'.cell? ⟨w.heap.size, 0, none⟩ = some (.slice A1 sg.length c1) ∧ w'.cell? ⟨w.heap.size, 1, none⟩ = some (.slice A2 mt.length c2) ∧ w'.cell? ⟨w.heap.size, 2, none⟩ = some (.int .i64 L))
    (first | exact db_mk HD1.out.drew | exact db_mk (HD1.out.drew.below hb9))
    (first
      | (go_at_call 39; ((with_reducible refine (graph_ok A1 A2 c1 c2 sg mt L w1.drew (· < w1.drew.heap.size) HD1.out.drew.rs HD1.out.drew.rm (fun _ h => h) H.out).mono ?_); rintro e9 w9 ⟨v9, rfl, hr9, hb9⟩; obtain ⟨A9, c9, rfl, -, -, -⟩ := hr9.shape; rw [rows_cycs_length])))
  have HB9 := Lib.hid (HB1.out.trans (Below.drew (Below.refl _ _) |>.trans (hb9.mono hs1)))
  have HD9 := Lib.hid (HD1.out.drew.below hb9)
  clear hb9 hr9 hsum
  go_wp2_with fail
  refine (components_ok A1 A2 c1 c2 sg mt L w9 (· < w9.heap.size) HD9.out.rs HD9.out.rm (fun _ h => h) H.out).mono ?_
  rintro e w10 ⟨rfl, hb10⟩
  have HB10 := Lib.hid (HB9.out.trans (hb10.mono HB9.out.size))
  clear hb10
  obtain ⟨cx, hcx⟩ : ∃ cx, ((strandsL sg mt).length : Int) + L = cx := ⟨_, rfl⟩
  have hcxb : 0 ≤ cx ∧ cx ≤ 1000 := by omega
  have HCX := Lib.hid hcx
  rw [hcx]
  clear hcx
  go_wp2_with fail
  go_ret2
  exact ⟨ret_i2 (by rw [HEX.out, HCX.out]) rfl, HB10.out⟩
end
end Go.Proofs.Ytaghemilihaiaaa

