/-
  The contracts of Face, Faces, Strands and Components.
-/
import Derived.Test.YtaghemilihaiaaaCycs
import Derived.Test.YtaghemilihaiaaaVld
import Derived.StillTailTactics
namespace Go.Proofs.Ytaghemilihaiaaa
open Go.RowKit

def facesL (mt : List Int) : List (List Nat) := cycsL (nxF mt) mt.length allT mt.length
def strandsL (sg mt : List Int) : List (List Nat) := cycsL (nxS mt) mt.length (outB sg) mt.length

theorem out_turn2 {sg : List Int} (hs : SgM sg) {g : Nat} (hg : g < 4 * sg.length) : outB sg (turnN g 2) = !outB sg g := by
  have h1 := hs (g / 4) (by omega)
  have h2 := turnN_div g 2
  have h3 := turnN_mod g 2
  unfold outB
  rw [h2, h3]
  have hc : g % 4 = 0 ∨ g % 4 = 1 ∨ g % 4 = 2 ∨ g % 4 = 3 := by omega
  rcases hc with e | e | e | e <;> rcases h1 with e1 | e1 <;> rw [e, e1] <;> decide
theorem out_nxS {sg mt : List Int} {L : Int} (h : IsD sg mt L) : ∀ g, g < mt.length → outB sg (nxS mt g) = outB sg g := by
  intro g hg
  obtain ⟨_, h2, _, _, h5, h6, h7, _⟩ := h
  have h8 := h7 g hg
  unfold nxS
  rw [out_turn2 h5 (by have := (h6.gn hg).2.1; omega)]
  revert h8
  cases outB sg g <;> cases outB sg (gn mt g) <;> simp

theorem dvalid_is {A1 A2 : Option Addr} {c1 c2 : Nat} {sg mt : List Int} {L : Int} {w : World} (S : Nat → Prop) (r : Bool) (hx : RI w S A1 sg) (hy : RI w S A2 mt) (hS : ∀ b, S b → b < w.heap.size) (hm1 : sg.length ≤ maxLen) (hm2 : mt.length ≤ maxLen) (hr : decide (IsD sg mt L) = r) :
    Calls Try.prog 24 #[.agg #[.slice A1 sg.length c1, .slice A2 mt.length c2, .int .i64 L]] w fun e w' => e = .returned (.bool r) ∧ Below w.heap.size w w' := by
  subst hr
  exact dvalid_any A1 A2 c1 c2 sg mt L w S hx hy hS hm1 hm2

/-! ### the closures -/
/-- what a closure over the box bd finds -/
structure DBox (w : World) (bd : Nat) (A1 A2 : Option Addr) (c1 c2 : Nat) (sg mt : List Int) (L : Int) : Prop where
  c0 : w.cell? ⟨bd, 0, none⟩ = some (.slice A1 sg.length c1)
  c1 : w.cell? ⟨bd, 1, none⟩ = some (.slice A2 mt.length c2)
  c2 : w.cell? ⟨bd, 2, none⟩ = some (.int .i64 L)
  lt : bd < w.heap.size
  rs : RI w (· < w.heap.size) A1 sg
  rm : RI w (· < w.heap.size) A2 mt
theorem DBox.below {w w' : World} {bd : Nat} {A1 A2 : Option Addr} {c1 c2 : Nat} {sg mt : List Int} {L : Int} (h : DBox w bd A1 A2 c1 c2 sg mt L) (hb : Below w.heap.size w w') : DBox w' bd A1 A2 c1 c2 sg mt L := by
  have hs := hb.size
  exact ⟨(hb.cell (p := ⟨bd, 0, none⟩) h.lt).trans h.c0, (hb.cell (p := ⟨bd, 1, none⟩) h.lt).trans h.c1, (hb.cell (p := ⟨bd, 2, none⟩) h.lt).trans h.c2, Nat.lt_of_lt_of_le h.lt hs,
    (h.rs.below hb).imp fun b hb => by omega, (h.rm.below hb).imp fun b hb => by omega⟩
theorem DBox.start {w : World} {A1 A2 : Option Addr} {c1 c2 : Nat} {sg mt : List Int} {L : Int} (S : Nat → Prop) (hx : RI w S A1 sg) (hy : RI w S A2 mt) (hS : ∀ b, S b → b < w.heap.size) :
    DBox (w.alloc (.cells #[.slice A1 sg.length c1, .slice A2 mt.length c2, .int .i64 L] 24)) w.heap.size A1 A2 c1 c2 sg mt L := by
  obtain ⟨h0, h1, h2⟩ := box_cells (Below.refl (w.heap.size + 1) (w.alloc (.cells #[.slice A1 sg.length c1, .slice A2 mt.length c2, .int .i64 L] 24)))
  exact ⟨h0, h1, h2, by simp, (hx.keep fun b hb => Below.heap_alloc w _ b (hS b hb)).imp fun b hb => by have := hS b hb; simp; omega,
    (hy.keep fun b hb => Below.heap_alloc w _ b (hS b hb)).imp fun b hb => by have := hS b hb; simp; omega⟩

theorem nextFaces {w : World} {bd : Nat} {A1 A2 : Option Addr} {c1 c2 : Nat} {sg mt : List Int} {L : Int} (h : DBox w bd A1 A2 c1 c2 sg mt L) (hI : InvM mt) (hl : mt.length ≤ 400000) : NextOk 69 bd mt.length (nxF mt) w := by
  intro g W hg hW
  have hd := h.below hW
  have k1 := hd.c1
  obtain ⟨hg1, hg2, -, -⟩ := hI.gn hg
  obtain ⟨b, off, rfl, -, hc⟩ := hd.rm.at_ hg
  have k2 := hc g hg
  rw [hg1] at k2
  have HG := Lib.hid hg2
  clear hc hd h hI hW hg1 hg2
  go_enter Try.func69, Try.ntmps69
  go_wp2_with fail
  refine (turn_at (gn mt g) 3 _ rfl (by have := HG.out; omega) (by decide)).mono ?_
  rintro e w1 ⟨rfl, rfl⟩
  go_wp2_with fail
  go_ret
  exact ⟨rfl, rfl⟩
theorem nextStrands {w : World} {bd : Nat} {A1 A2 : Option Addr} {c1 c2 : Nat} {sg mt : List Int} {L : Int} (h : DBox w bd A1 A2 c1 c2 sg mt L) (hI : InvM mt) (hl : mt.length ≤ 400000) : NextOk 77 bd mt.length (nxS mt) w := by
  intro g W hg hW
  have hd := h.below hW
  have k1 := hd.c1
  obtain ⟨hg1, hg2, -, -⟩ := hI.gn hg
  obtain ⟨b, off, rfl, -, hc⟩ := hd.rm.at_ hg
  have k2 := hc g hg
  rw [hg1] at k2
  have HG := Lib.hid hg2
  clear hc hd h hI hW hg1 hg2
  go_enter Try.func77, Try.ntmps77
  go_wp2_with fail
  refine (opp_any (gn mt g) _ rfl (by have := HG.out; omega)).mono ?_
  rintro e w1 ⟨rfl, rfl⟩
  go_wp2_with fail
  go_ret
  exact ⟨rfl, rfl⟩
theorem wantFaces (N : Nat) (w : World) : WantOk 67 #[] N allT w := by
  intro g W hg hW
  show Calls _ _ #[.int .i64 g] _ _
  go_enter Try.func67, Try.ntmps67
  go_wp2_with fail
  go_ret
  exact ⟨rfl, Below.refl _ _⟩
theorem wantStrands {w : World} {bd : Nat} {A1 A2 : Option Addr} {c1 c2 : Nat} {sg mt : List Int} {L : Int} (h : DBox w bd A1 A2 c1 c2 sg mt L) (hn : mt.length = 4 * sg.length) (hl : sg.length ≤ 64) : WantOk 76 #[.pointer (some ⟨bd, 0, none⟩)] mt.length (outB sg) w := by
  intro g W hg hW
  show Calls _ _ #[.int .i64 g, .pointer (some ⟨bd, 0, none⟩)] _ _
  have hd := h.below hW
  have k0 := hd.c0
  have k1 := hd.c1
  have k2 := hd.c2
  have HR := Lib.hid hd.rs
  have HG := Lib.hid hg
  have HN := Lib.hid hn
  clear hd h hW hg hn
  go_enter Try.func76, Try.ntmps76
  go_wp2_with fail
  refine (outgoing_any A1 A2 c1 c2 mt.length sg L _ g _ (· < W.heap.size) HR.out (fun _ h => h) (by omega) rfl (by have := HG.out; have := HN.out; omega)).mono ?_
  rintro e w1 ⟨rfl, hb1⟩
  go_wp2_with fail
  go_ret
  exact ⟨rfl, hb1⟩

theorem enF : Enters 69 := enters_of Try.func69 (by kernel_rfl) rfl
theorem enW : Enters 67 := enters_of Try.func67 (by kernel_rfl) rfl
theorem enS : Enters 77 := enters_of Try.func77 (by kernel_rfl) rfl
theorem enSW : Enters 76 := enters_of Try.func76 (by kernel_rfl) rfl

section
variable (A1 A2 : Option Addr) (c1 c2 : Nat) (sg mt : List Int) (L : Int) (w : World) (S : Nat → Prop) (hx : RI w S A1 sg) (hy : RI w S A2 mt) (hS : ∀ b, S b → b < w.heap.size)
include hx hy hS

set_option maxHeartbeats 1000000 in
theorem faces_no (hm1 : sg.length ≤ maxLen) (hm2 : mt.length ≤ maxLen) (hno : ¬ IsD sg mt L) :
    Calls Try.prog 47 #[.agg #[.slice A1 sg.length c1, .slice A2 mt.length c2, .int .i64 L]] w fun e w' => e = .returned (.slice none 0 0) ∧ Below w.heap.size w w' := by
  have HD := Lib.hid (DBox.start (c1 := c1) (c2 := c2) (L := L) S hx hy hS)
  have H := Lib.hid (decide_eq_false hno)
  clear hx hy hS hno
  go_enter Try.func47, Try.ntmps47
  go_wp2_with fail
  refine (dvalid_is _ false HD.out.rs HD.out.rm (fun _ h => h) hm1 hm2 H.out).mono ?_
  rintro e w1 ⟨rfl, hb1⟩
  go_wp2_with fail
  go_ret
  exact ⟨rfl, below_box (by simpa using hb1)⟩
set_option maxHeartbeats 1000000 in
theorem faces_ok (hd : IsD sg mt L) :
    Calls Try.prog 47 #[.agg #[.slice A1 sg.length c1, .slice A2 mt.length c2, .int .i64 L]] w fun e w' => ∃ v, e = .returned v ∧ RR 22 w' w.heap.size (fun _ => False) v (rows (facesL mt)) ∧ Below w.heap.size w w' := by
  have HD := Lib.hid (DBox.start (c1 := c1) (c2 := c2) (L := L) S hx hy hS)
  have H := Lib.hid hd
  obtain ⟨h1, h2, -, -, -, h6, -, -⟩ := hd
  have hm1 : sg.length ≤ maxLen := by unfold maxLen; omega
  have hm2 : mt.length ≤ maxLen := by unfold maxLen; omega
  have hml : mt.length ≤ 400000 := by omega
  have HI := Lib.hid h6
  have HN := Lib.hid h2
  clear hx hy hS h6 h2
  go_enter Try.func47, Try.ntmps47
  go_wp2_with fail
  refine (dvalid_is _ true HD.out.rs HD.out.rm (fun _ h => h) hm1 hm2 (decide_eq_true H.out)).mono ?_
  rintro e w1 ⟨rfl, hb1⟩
  have HD1 := Lib.hid (HD.out.below hb1)
  have k1 := HD1.out.c1
  have HB1 := Lib.hid (below_box (o := .cells #[.slice A1 sg.length c1, .slice A2 mt.length c2, .int .i64 L] 24) (by simpa using hb1))
  have hs1 := HB1.out.size
  clear hb1 HD
  go_wp2_with fail
  refine (cycles_any 69 67 w.heap.size mt.length #[] (nxF mt) allT w1 (nxF_perm HI.out HN.out) (fun _ _ => rfl) hml enF enW (nextFaces HD1.out HI.out hml) (wantFaces _ _)).mono ?_
  rintro e w2 ⟨v, rfl, hr, hb2⟩
  have HR := Lib.hid (hr.mono hs1)
  have HB2 := Lib.hid (HB1.out.trans (hb2.mono hs1))
  clear hr hb2 k1
  go_wp2_with fail
  go_ret
  exact ⟨_, rfl, HR.out, HB2.out⟩

set_option maxHeartbeats 1000000 in
theorem strands_no (hm1 : sg.length ≤ maxLen) (hm2 : mt.length ≤ maxLen) (hno : ¬ IsD sg mt L) :
    Calls Try.prog 64 #[.agg #[.slice A1 sg.length c1, .slice A2 mt.length c2, .int .i64 L]] w fun e w' => e = .returned (.slice none 0 0) ∧ Below w.heap.size w w' := by
  have HD := Lib.hid (DBox.start (c1 := c1) (c2 := c2) (L := L) S hx hy hS)
  have H := Lib.hid (decide_eq_false hno)
  clear hx hy hS hno
  go_enter Try.func64, Try.ntmps64
  go_wp2_with fail
  refine (dvalid_is _ false HD.out.rs HD.out.rm (fun _ h => h) hm1 hm2 H.out).mono ?_
  rintro e w1 ⟨rfl, hb1⟩
  go_wp2_with fail
  go_ret
  exact ⟨rfl, below_box (by simpa using hb1)⟩
set_option maxHeartbeats 1000000 in
theorem strands_ok (hd : IsD sg mt L) :
    Calls Try.prog 64 #[.agg #[.slice A1 sg.length c1, .slice A2 mt.length c2, .int .i64 L]] w fun e w' => ∃ v, e = .returned v ∧ RR 22 w' w.heap.size (fun _ => False) v (rows (strandsL sg mt)) ∧ Below w.heap.size w w' := by
  have HD := Lib.hid (DBox.start (c1 := c1) (c2 := c2) (L := L) S hx hy hS)
  have H := Lib.hid hd
  obtain ⟨h1, h2, -, -, -, h6, -, -⟩ := hd
  have hm1 : sg.length ≤ maxLen := by unfold maxLen; omega
  have hm2 : mt.length ≤ maxLen := by unfold maxLen; omega
  have hml : mt.length ≤ 400000 := by omega
  have HI := Lib.hid h6
  have HN := Lib.hid h2
  clear hx hy hS h6 h2
  go_enter Try.func64, Try.ntmps64
  go_wp2_with fail
  refine (dvalid_is _ true HD.out.rs HD.out.rm (fun _ h => h) hm1 hm2 (decide_eq_true H.out)).mono ?_
  rintro e w1 ⟨rfl, hb1⟩
  have HD1 := Lib.hid (HD.out.below hb1)
  have k1 := HD1.out.c1
  have HB1 := Lib.hid (below_box (o := .cells #[.slice A1 sg.length c1, .slice A2 mt.length c2, .int .i64 L] 24) (by simpa using hb1))
  have hs1 := HB1.out.size
  clear hb1 HD
  go_wp2_with fail
  refine (cycles_any 77 76 w.heap.size mt.length #[.pointer (some ⟨w.heap.size, 0, none⟩)] (nxS mt) (outB sg) w1 (nxS_perm HI.out HN.out) (out_nxS H.out) hml enS enSW (nextStrands HD1.out HI.out hml) (wantStrands HD1.out HN.out h1)).mono ?_
  rintro e w2 ⟨v, rfl, hr, hb2⟩
  have HR := Lib.hid (hr.mono hs1)
  have HB2 := Lib.hid (HB1.out.trans (hb2.mono hs1))
  clear hr hb2 k1
  go_wp2_with fail
  go_ret
  exact ⟨_, rfl, HR.out, HB2.out⟩

set_option maxHeartbeats 1000000 in
theorem components_no (hm1 : sg.length ≤ maxLen) (hm2 : mt.length ≤ maxLen) (hno : ¬ IsD sg mt L) :
    Calls Try.prog 40 #[.agg #[.slice A1 sg.length c1, .slice A2 mt.length c2, .int .i64 L]] w fun e w' => e = .returned (.int .i64 0) ∧ Below w.heap.size w w' := by
  have HD := Lib.hid (DBox.start (c1 := c1) (c2 := c2) (L := L) S hx hy hS)
  have H := Lib.hid (decide_eq_false hno)
  clear hx hy hS hno
  go_enter Try.func40, Try.ntmps40
  go_wp2_with fail
  refine (dvalid_is _ false HD.out.rs HD.out.rm (fun _ h => h) hm1 hm2 H.out).mono ?_
  rintro e w1 ⟨rfl, hb1⟩
  go_wp2_with fail
  go_ret
  exact ⟨rfl, below_box (by simpa using hb1)⟩

end
end Go.Proofs.Ytaghemilihaiaaa

