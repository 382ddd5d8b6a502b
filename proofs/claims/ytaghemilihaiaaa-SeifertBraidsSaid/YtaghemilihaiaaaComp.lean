/-
  The contract of Components.
-/
import Derived.Test.YtaghemilihaiaaaLists
namespace Go.Proofs.Ytaghemilihaiaaa
open Go.RowKit

theorem db_mk {w : World} {bd : Nat} {A1 A2 : Option Addr} {c1 c2 : Nat} {sg mt : List Int} {L : Int} (h : DBox w bd A1 A2 c1 c2 sg mt L) :
    Hid (DBox w bd A1 A2 c1 c2 sg mt L) ∧ w.cell? ⟨bd, 0, none⟩ = some (.slice A1 sg.length c1) ∧ w.cell? ⟨bd, 1, none⟩ = some (.slice A2 mt.length c2) ∧ w.cell? ⟨bd, 2, none⟩ = some (.int .i64 L) := ⟨h, h.c0, h.c1, h.c2⟩
theorem DBox.drew {w : World} {bd : Nat} {A1 A2 : Option Addr} {c1 c2 : Nat} {sg mt : List Int} {L : Int} (h : DBox w bd A1 A2 c1 c2 sg mt L) : DBox w.drew bd A1 A2 c1 c2 sg mt L := ⟨h.c0, h.c1, h.c2, h.lt, h.rs, h.rm⟩
theorem strandsL_le (sg mt : List Int) : (strandsL sg mt).length ≤ mt.length := by
  have := cycsL_len (nxS mt) mt.length (outB sg) mt.length
  rwa [rows_cycs_length] at this

set_option maxHeartbeats 1000000 in
theorem components_ok (A1 A2 : Option Addr) (c1 c2 : Nat) (sg mt : List Int) (L : Int) (w : World) (S : Nat → Prop) (hx : RI w S A1 sg) (hy : RI w S A2 mt) (hS : ∀ b, S b → b < w.heap.size) (hd : IsD sg mt L) :
    Calls Try.prog 40 #[.agg #[.slice A1 sg.length c1, .slice A2 mt.length c2, .int .i64 L]] w fun e w' => e = .returned (.int .i64 (((strandsL sg mt).length : Int) + L)) ∧ Below w.heap.size w w' := by
  have HD := Lib.hid (DBox.start (c1 := c1) (c2 := c2) (L := L) S hx hy hS)
  have H := Lib.hid hd
  obtain ⟨h1, h2, h3, h4, -, h6, -, -⟩ := hd
  have hm1 : sg.length ≤ maxLen := by unfold maxLen; omega
  have hm2 : mt.length ≤ maxLen := by unfold maxLen; omega
  have hsl := strandsL_le sg mt
  have hsl2 : (strandsL sg mt).length ≤ 400 := by omega
  clear hx hy hS h6 h2 hsl
  go_enter Try.func40, Try.ntmps40
  go_wp2_with fail
  refine (dvalid_is _ true HD.out.rs HD.out.rm (fun _ h => h) hm1 hm2 (decide_eq_true H.out)).mono ?_
  rintro e w1 ⟨rfl, hb1⟩
  have HD1 := Lib.hid (HD.out.below hb1)
  have k0 := HD1.out.c0
  have k1 := HD1.out.c1
  have k2 := HD1.out.c2
  have HB1 := Lib.hid (below_box (o := .cells #[.slice A1 sg.length c1, .slice A2 mt.length c2, .int .i64 L] 24) (by simpa using hb1))
  have hs1 := HB1.out.size
  clear hb1 HD
  go_wp2_with fail
  have hsum : IntKind.i64.wrap (((strandsL sg mt).length : Int) + L) = ((strandsL sg mt).length : Int) + L := IntWalk.i64_in _ (by omega)
  clear k0 k1 k2 hm1 hm2
  go_region_held3 (fun w' => Hid (DBox w' w.heap.size A1 A2 c1 c2 sg mt L) ∧ w'.cell? ⟨w.heap.size, 0, none⟩ = some (.slice A1 sg.length c1) ∧ w'.cell? ⟨w.heap.size, 1, none⟩ = some (.slice A2 mt.length c2) ∧ w'.cell? ⟨w.heap.size, 2, none⟩ = some (.int .i64 L))
    (first | exact db_mk HD1.out.drew | exact db_mk (HD1.out.drew.below hb9))
    (first
      | (go_at_call 64; ((with_reducible refine (strands_ok A1 A2 c1 c2 sg mt L w1.drew (· < w1.drew.heap.size) HD1.out.drew.rs HD1.out.drew.rm (fun _ h => h) H.out).mono ?_); rintro e9 w9 ⟨v9, rfl, hr9, hb9⟩; obtain ⟨A9, c9, rfl, -, -, -⟩ := hr9.shape; rw [rows_cycs_length])))
  have HB9 := Lib.hid (HB1.out.trans (Below.drew (Below.refl _ _) |>.trans (hb9.mono hs1)))
  clear hb9 hr9 hsum
  go_wp2_with fail
  go_ret
  exact ⟨rfl, HB9.out⟩
end Go.Proofs.Ytaghemilihaiaaa

