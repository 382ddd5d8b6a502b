/-
  The contract of seifert.Graph.
-/
import Derived.Test.YtaghemilihaiaaaSeif
import Derived.Test.YtaghemilihaiaaaPr
namespace Go.Proofs.Ytaghemilihaiaaa
open Go.RowKit

/-- the edges of the Seifert graph -/
def sedge (sg mt : List Int) (c : Nat) : Int × Int := (numI (nxC sg mt) mt.length (outB sg) (4 * c + 2), numI (nxC sg mt) mt.length (outB sg) (overN sg c))
def sedges (sg mt : List Int) (k : Nat) : List (Int × Int) := (List.range k).map (sedge sg mt)
theorem sedges_length (sg mt : List Int) (k : Nat) : (sedges sg mt k).length = k := by simp [sedges]
theorem sedges_succ (sg mt : List Int) (k : Nat) : sedges sg mt (k + 1) = sedges sg mt k ++ [sedge sg mt k] := by simp [sedges, List.range_succ]

/-- what holds along the loop over the crossings: all that was there lies below w2's blocks -/
structure GqSt (w2 w : World) (v : Value) (ps : List (Int × Int)) : Prop where
  bl : Below w2.heap.size w2 w
  op : OP w w2.heap.size v ps
section
variable {w2 w w' : World} {v v' : Value} {ps : List (Int × Int)}
theorem GqSt.call (h : GqSt w2 w v ps) (hb : Below w.heap.size w w') : GqSt w2 w' v ps := ⟨h.bl.trans (hb.mono h.bl.size), h.op.below hb (Nat.le_refl _)⟩
theorem GqSt.drew (h : GqSt w2 w v ps) : GqSt w2 w.drew v ps := h.call (Below.refl _ _).drew
theorem GqSt.alloc (h : GqSt w2 w v ps) (o : Obj) : GqSt w2 (w.alloc o) v ps := h.call ((Below.refl _ _).alloc (Nat.le_refl _) _)
theorem GqSt.push {p : Int × Int} (h : GqSt w2 w v ps) (ho : OP w' w2.heap.size v' (ps ++ [p])) (hg : w.grownBy w' v.ownBlock) : GqSt w2 w' v' (ps ++ [p]) :=
  ⟨h.bl.grown hg h.bl.size fun k hk => (h.op.lt k hk).1, ho⟩
end
/-- the cells that the region loads -/
structure GqC (w w0 : World) (A1 A2 : Option Addr) (c1 c2 : Nat) (sg mt : List Int) (L : Int) (bd gp i j : Nat) (x y : Int) : Prop where
  db : DBox w bd A1 A2 c1 c2 sg mt L
  cx : w.cell? ⟨gp, i, none⟩ = some (.int .i64 x)
  cy : w.cell? ⟨gp, j, none⟩ = some (.int .i64 y)
  lt : gp < w.heap.size
theorem GqC.pack {w w0 w2 : World} {A1 A2 : Option Addr} {c1 c2 : Nat} {sg mt : List Int} {L : Int} {bd gp i j : Nat} {x y : Int} (hc : GqC w2 w0 A1 A2 c1 c2 sg mt L bd gp i j x y) (h : Below w2.heap.size w2 w) :
    Hid (Below w2.heap.size w2 w) ∧ w.cell? ⟨bd, 0, none⟩ = some (.slice A1 sg.length c1) ∧ w.cell? ⟨bd, 1, none⟩ = some (.slice A2 mt.length c2) ∧ w.cell? ⟨bd, 2, none⟩ = some (.int .i64 L) ∧ w.cell? ⟨gp, i, none⟩ = some (.int .i64 x) ∧ w.cell? ⟨gp, j, none⟩ = some (.int .i64 y) :=
  have hd := hc.db.below h
  ⟨h, hd.c0, hd.c1, hd.c2, (h.cell (p := ⟨gp, i, none⟩) hc.lt).trans hc.cx, (h.cell (p := ⟨gp, j, none⟩) hc.lt).trans hc.cy⟩

section
variable (A1 A2 : Option Addr) (c1 c2 : Nat) (sg mt : List Int) (L : Int) (w : World) (S : Nat → Prop) (hx : RI w S A1 sg) (hy : RI w S A2 mt) (hS : ∀ b, S b → b < w.heap.size)
include hx hy hS
set_option maxHeartbeats 1000000 in
theorem sgraph_no (hm1 : sg.length ≤ maxLen) (hm2 : mt.length ≤ maxLen) (hno : ¬ IsD sg mt L) :
    Calls Try.prog 22 #[.agg #[.slice A1 sg.length c1, .slice A2 mt.length c2, .int .i64 L]] w fun e w' => e = .returned (.tuple #[.slice none 0 0, .int .i64 0, .int .i64 1]) ∧ Below w.heap.size w w' := by
  have HD := Lib.hid (DBox.start (c1 := c1) (c2 := c2) (L := L) S hx hy hS)
  have H := Lib.hid (decide_eq_false hno)
  clear hx hy hS hno
  go_enter Try.func22, Try.ntmps22
  go_wp2_with fail
  refine (dvalid_is _ false HD.out.rs HD.out.rm (fun _ h => h) hm1 hm2 H.out).mono ?_
  rintro e w1 ⟨rfl, hb1⟩
  go_wp2_with fail
  go_ret3
  exact ⟨rfl, below_box (by simpa using hb1)⟩

set_option maxHeartbeats 4000000 in
theorem sgraph_ok (hd : IsD sg mt L) :
    Calls Try.prog 22 #[.agg #[.slice A1 sg.length c1, .slice A2 mt.length c2, .int .i64 L]] w fun e w' => ∃ v, e = .returned (.tuple #[v, .int .i64 ((circL sg mt).length + L), .int .i64 0]) ∧ OP w' w.heap.size v (sedges sg mt sg.length) ∧ Below w.heap.size w w' := by
  have HD := Lib.hid (DBox.start (c1 := c1) (c2 := c2) (L := L) S hx hy hS)
  have H := Lib.hid hd
  have hcl : (circL sg mt).length ≤ 256 := by
    have := cycsL_len (nxC sg mt) mt.length (outB sg) mt.length
    rw [rows_cycs_length] at this
    have := hd.1
    have := hd.2.1
    unfold circL
    omega
  have HS := Lib.hid hd.2.2.2.2.1
  obtain ⟨h1, h2, h3, h4, -, h6, -, -⟩ := hd
  have hm1 : sg.length ≤ maxLen := by unfold maxLen; omega
  have hm2 : mt.length ≤ maxLen := by unfold maxLen; omega
  have HN := Lib.hid h2
  have hml : mt.length ≤ 256 := by omega
  have hsl : sg.length ≤ 100000 := by omega
  clear hx hy hS h6 h2
  go_enter Try.func22, Try.ntmps22
  go_wp2_with fail
  refine (dvalid_is _ true HD.out.rs HD.out.rm (fun _ h => h) hm1 hm2 (decide_eq_true H.out)).mono ?_
  rintro e w1 ⟨rfl, hb1⟩
  have HD1 := Lib.hid (HD.out.below hb1)
  have k0 := HD1.out.c0
  have k1 := HD1.out.c1
  have k2 := HD1.out.c2
  have HB1 := Lib.hid (below_box (o := (.cells #[.slice A1 sg.length c1, .slice A2 mt.length c2, .int .i64 L] 24)) (by simpa using hb1))
  have hs1 := HB1.out.size
  clear hb1 HD
  go_wp2_with fail
  refine (circles_any A1 A2 c1 c2 sg mt L w1 (· < w1.heap.size) HD1.out.rs HD1.out.rm (fun _ h => h) H.out).mono ?_
  rintro e w2 ⟨v, rfl, hr, hn2, hb2⟩
  obtain ⟨Av, cv, rfl, -, -, -⟩ := hr.shape
  rw [rows_cycs_length]
  have HB2 := Lib.hid (HB1.out.trans (hb2.mono hs1))
  have HD2 := Lib.hid (HD1.out.below hb2)
  have HN2 := Lib.hid hn2
  have hs2 := HB2.out.size
  clear hr hb2 k0 k1 k2 HD1 HB1 hn2
  have k0 := HD2.out.c0
  have HQ0 : Hid (GqSt w2 w2 (.slice none 0 0) (sedges sg mt 0)) := ⟨Below.refl _ _, OP.nil _ _⟩
  obtain ⟨gp, hgp⟩ : ∃ gp, w1.heap.size + 1 = gp := ⟨_, rfl⟩
  rw [hgp] at HN2 ⊢
  clear hgp
  go_wp2_with fail
  clear k0
  go_loopw [7, 20] (fun v i wr => ∃ k : Nat, k ≤ sg.length ∧ i = .int .i64 k ∧ Hid (GqSt w2 wr v (sedges sg mt k))) (fun _ i _ => sg.length - (intOf i).toNat)
  case atStart => exact ⟨0, Nat.zero_le _, rfl, HQ0⟩
  case round =>
    clear HQ0
    obtain ⟨k, hk, rfl, HQ⟩ := hrel
    by_cases hlt : k < sg.length
    · have hov := over_out HS.out hlt
      obtain ⟨o, ho⟩ : ∃ o, overN sg k = o := ⟨_, rfl⟩
      rw [ho] at hov
      have hol : o < mt.length := by have := HN.out; omega
      have hil : 4 * k + 2 < mt.length := by have := HN.out; omega
      have HO := Lib.hid ho
      obtain ⟨-, -, hgs, -, hcell, -⟩ := HN2.out.ints_at (by rw [numsL_length]; omega)
      have n1 := hcell (4 * k + 2) (by rw [numsL_length]; exact hil)
      have n2 := hcell o (by rw [numsL_length]; exact hol)
      rw [gi_numsL hil] at n1
      rw [gi_numsL hol] at n2
      obtain ⟨x, hxx⟩ : ∃ x, numI (nxC sg mt) mt.length (outB sg) (4 * k + 2) = x := ⟨_, rfl⟩
      obtain ⟨y, hyy⟩ : ∃ y, numI (nxC sg mt) mt.length (outB sg) o = y := ⟨_, rfl⟩
      rw [hxx] at n1
      rw [hyy] at n2
      have HC := Lib.hid (GqC.mk (w0 := w) HD2.out n1 n2 hgs)
      have HE := Lib.hid (show sedge sg mt k = (x, y) by unfold sedge; rw [ho, hxx, hyy])
      have hlen : (sedges sg mt k).length < 1099511627776 := by rw [sedges_length]; omega
      have HLE := Lib.hid hlen
      have i1 : (0 : Int) ≤ 4 * (k : Int) + 2 ∧ 4 * (k : Int) + 2 < mt.length := by omega
      have i2 : (4 * (k : Int) + 2).toNat = 4 * k + 2 := by omega
      have w1' : IntKind.i64.wrap (4 * (k : Int)) = 4 * (k : Int) := IntWalk.i64_in _ (by omega)
      have w2' : IntKind.i64.wrap (4 * (k : Int) + 2) = 4 * (k : Int) + 2 := IntWalk.i64_in _ (by omega)
      have i4 : (0 : Int) ≤ 4 * (k : Int) + 2 := by omega
      have i5 : 4 * (k : Int) + 2 < mt.length := by omega
      have i3 : (0 : Int) ≤ (o : Int) ∧ (o : Int) < mt.length := by omega
      clear hcell n1 n2 hxx hyy ho hov hlen
      go_wp2_with fail
      go_region_held3 (fun w' => Hid (Below w2.heap.size w2 w') ∧ w'.cell? ⟨w.heap.size, 0, none⟩ = some (.slice A1 sg.length c1) ∧ w'.cell? ⟨w.heap.size, 1, none⟩ = some (.slice A2 mt.length c2) ∧ w'.cell? ⟨w.heap.size, 2, none⟩ = some (.int .i64 L) ∧ w'.cell? ⟨gp, 4 * k + 2, none⟩ = some (.int .i64 x) ∧ w'.cell? ⟨gp, o, none⟩ = some (.int .i64 y))
        (first | exact HC.out.pack HQ.out.drew.bl | exact HC.out.pack (HQ.out.drew.call hb9).bl | exact HC.out.pack ((HQ.out.drew.call hb9).alloc _).bl | exact HC.out.pack hq9.bl)
        (first
          | (go_at_call 43; ((with_reducible refine (over_any A1 A2 c1 c2 mt.length sg L _ k _ (· < w2.heap.size) (HD2.out.rs.below HQ.out.drew.bl) (fun b hb => Nat.lt_of_lt_of_le hb HQ.out.drew.bl.size) HS.out hlt hsl rfl).mono ?_); rintro e9 w9 ⟨rfl, hb9⟩; rw [HO.out]))
          | (refine step_app_pair ((HQ.out.drew.call hb9).alloc _).op HLE.out ((HQ.out.drew.call hb9).alloc _).bl.size (heap_alloc_new _ _) rfl rfl Try.underlying36 rfl rfl ?_; intro v9 w8 ho9 hg9 hob9; have hq9 := GqSt.push ((HQ.out.drew.call hb9).alloc _) ho9 hg9))
      have HQ9 : Hid (GqSt w2 w8 v9 (sedges sg mt (k + 1))) := by
        rw [sedges_succ, HE.out]; exact hq9
      clear hq9 ho9 hg9 hob9 hb9
      go_wp2_with fail
      go_roundw
      case rel => exact ⟨k + 1, by omega, by go_num, HQ9⟩
      case measure => simp [intOf]; omega
    · obtain rfl : sg.length = k := by omega
      have hd := HD2.out.below HQ.out.bl
      have k0 := hd.c0
      have k2 := hd.c2
      have HB9 := Lib.hid (HB2.out.trans (HQ.out.bl.mono hs2))
      have HO9 := Lib.hid (HQ.out.op.mono hs2)
      clear hd HQ hlt
      go_wp2_with fail
      go_quiet (fail)
      go_wp2_with fail
      go_ret3
      exact ⟨_, rfl, HO9.out, below_drewN HB9.out _⟩
end
end Go.Proofs.Ytaghemilihaiaaa

