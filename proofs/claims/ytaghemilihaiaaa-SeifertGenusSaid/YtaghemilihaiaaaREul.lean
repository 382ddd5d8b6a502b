/-
  The contracts of the reference's Euler and Connected.
-/
import Derived.Test.YtaghemilihaiaaaRCircW
import Derived.Test.YtaghemilihaiaaaRGraph
namespace Go.Proofs.Ytaghemilihaiaaa
open Go.RowKit
theorem circL_le (sg mt : List Int) (L : Int) (hd : IsD sg mt L) : (circL sg mt).length ≤ 256 := by
  have := cycsL_len (nxC sg mt) mt.length (outB sg) mt.length
  rw [rows_cycs_length] at this
  have := hd.1
  have := hd.2.1
  unfold circL
  omega
section
variable (A1 A2 : Option Addr) (c1 c2 : Nat) (sg mt : List Int) (L : Int) (w : World) (S : Nat → Prop) (hx : RI w S A1 sg) (hy : RI w S A2 mt) (hS : ∀ b, S b → b < w.heap.size)
include hx hy hS
set_option maxHeartbeats 1000000 in
theorem reuler_any (hd : IsD sg mt L) :
    Calls Try.prog 19 #[.agg #[.slice A1 sg.length c1, .slice A2 mt.length c2, .int .i64 L]] w fun e w' => e = .returned (.int .i64 (((circL sg mt).length : Int) + L - sg.length)) ∧ Below w.heap.size w w' := by
  have HD := Lib.hid (DBox.start (c1 := c1) (c2 := c2) (L := L) S hx hy hS)
  have hb0 : Below w.heap.size w (w.alloc (.cells #[.slice A1 sg.length c1, .slice A2 mt.length c2, .int .i64 L] 24)) := (Below.refl _ _).alloc (Nat.le_refl _) _
  have H := Lib.hid hd
  have hcl := circL_le sg mt L hd
  obtain ⟨h1, h2, h3, h4, -, -, -, -⟩ := hd
  clear hx hy hS h2
  go_enter Try.func19, Try.ntmps19
  generalize hW : w.alloc (.cells #[.slice A1 sg.length c1, .slice A2 mt.length c2, .int .i64 L] 24) = w1 at *
  have HD1 := Lib.hid HD.out
  have HB1 := Lib.hid hb0
  have hs1 := HB1.out.size
  clear hb0 HD
  go_wp2_with fail
  clear hW
  have hsum : IntKind.i64.wrap (((circL sg mt).length : Int) + L) = ((circL sg mt).length : Int) + L := IntWalk.i64_in _ (by omega)
  have hsum2 : IntKind.i64.wrap (((circL sg mt).length : Int) + L - sg.length) = ((circL sg mt).length : Int) + L - sg.length := IntWalk.i64_in _ (by omega)
  go_region_held3 (fun w' => Hid (DBox w' w.heap.size A1 A2 c1 c2 sg mt L) ∧ w'.cell? ⟨w.heap.size, 0, none⟩ = some (.slice A1 sg.length c1) ∧ w'.cell? ⟨w.heap.size, 1, none⟩ = some (.slice A2 mt.length c2) ∧ w'.cell? ⟨w.heap.size, 2, none⟩ = some (.int .i64 L))
    (first | exact db_mk HD1.out.drew | exact db_mk (HD1.out.drew.below hb9))
    (first
      | (go_at_call 16; ((with_reducible refine (rcircles_any A1 A2 c1 c2 sg mt L w1.drew (· < w1.drew.heap.size) HD1.out.drew.rs HD1.out.drew.rm (fun _ h => h) H.out).mono ?_); rintro e9 w9 ⟨v9, rfl, hr9, hb9⟩; obtain ⟨A9, c9, rfl, -, -, -⟩ := hr9.shape; rw [rows_cycs_length])))
  have HB9 := Lib.hid (HB1.out.trans (Below.drew (Below.refl _ _) |>.trans (hb9.mono hs1)))
  clear hb9 hr9 hsum hsum2
  go_wp2_with fail
  go_ret
  exact ⟨rfl, HB9.out⟩
set_option maxHeartbeats 1000000 in
theorem rconn_any (hd : IsD sg mt L) (r : Bool) (hr : decide (((graphL mt sg.length).length : Int) + L = 1) = r) :
    Calls Try.prog 21 #[.agg #[.slice A1 sg.length c1, .slice A2 mt.length c2, .int .i64 L]] w fun e w' => e = .returned (.bool r) ∧ Below w.heap.size w w' := by
  have HD := Lib.hid (DBox.start (c1 := c1) (c2 := c2) (L := L) S hx hy hS)
  have hb0 : Below w.heap.size w (w.alloc (.cells #[.slice A1 sg.length c1, .slice A2 mt.length c2, .int .i64 L] 24)) := (Below.refl _ _).alloc (Nat.le_refl _) _
  have hn := hd.2.1
  have HN := Lib.hid hn
  have HI6 := Lib.hid hd.2.2.2.2.2.1
  have hgl : (graphL mt sg.length).length ≤ 64 := by
    have e := graphL_idx hd.2.2.2.2.2.1 hn
    have : (graphL mt sg.length).length = idxAt mt sg.length sg.length := by rw [← e]; simp
    rw [this]
    have := idxN_le (labN mt sg.length) sg.length
    have := hd.1
    unfold idxAt
    omega
  obtain ⟨h1, h2, h3, h4, -, -, -, -⟩ := hd
  have hsl : sg.length ≤ 100000 := by omega
  have hsum : IntKind.i64.wrap (((graphL mt sg.length).length : Int) + L) = ((graphL mt sg.length).length : Int) + L := IntWalk.i64_in _ (by omega)
  have hsum2 : ((((graphL mt sg.length).length : Int) + L) == 1) = r := by rw [← hr, Bool.eq_iff_iff, beq_iff_eq, decide_eq_true_eq]
  clear hx hy hS h2 hn hr
  go_enter Try.func21, Try.ntmps21
  generalize hW : w.alloc (.cells #[.slice A1 sg.length c1, .slice A2 mt.length c2, .int .i64 L] 24) = w1 at *
  have HD1 := Lib.hid HD.out
  have HB1 := Lib.hid hb0
  have hs1 := HB1.out.size
  clear hb0 HD
  go_wp2_with fail
  clear hW
  go_region_held3 (fun w' => Hid (DBox w' w.heap.size A1 A2 c1 c2 sg mt L) ∧ w'.cell? ⟨w.heap.size, 0, none⟩ = some (.slice A1 sg.length c1) ∧ w'.cell? ⟨w.heap.size, 1, none⟩ = some (.slice A2 mt.length c2) ∧ w'.cell? ⟨w.heap.size, 2, none⟩ = some (.int .i64 L))
    (first | exact db_mk HD1.out.drew | exact db_mk (HD1.out.drew.below hb9))
    (first
      | (go_at_call 42; ((with_reducible refine (rgraph_any A2 c2 sg.length mt w1.drew (· < w1.drew.heap.size) HD1.out.drew.rm (fun _ h => h) HN.out HI6.out hsl).mono ?_); rintro e9 w9 ⟨v9, rfl, hr9, hb9⟩; obtain ⟨A9, c9, rfl, -, -, -⟩ := hr9.shape; rw [rows_cycs_length])))
  have HB9 := Lib.hid (HB1.out.trans (Below.drew (Below.refl _ _) |>.trans (hb9.mono hs1)))
  clear hb9 hr9 hsum
  go_wp2_with fail
  go_ret
  exact ⟨rfl, HB9.out⟩
end
end Go.Proofs.Ytaghemilihaiaaa

