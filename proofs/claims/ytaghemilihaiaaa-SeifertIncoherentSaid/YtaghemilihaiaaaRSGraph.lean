/-
  The contract of the reference's Graph of layer 32.
-/
import Derived.Test.YtaghemilihaiaaaRSeif
namespace Go.Proofs.Ytaghemilihaiaaa
open Go.RowKit

structure RgC (w : World) (A1 A2 A3 : Option Addr) (c1 c2 : Nat) (sg mt : List Int) (L : Int) (bd : Nat) : Prop where
  db : DBox w bd A1 A2 c1 c2 sg mt L
  rl : RL w (· < w.heap.size) A3 (rows (circL sg mt))
theorem RgC.below {w w' : World} {A1 A2 A3 : Option Addr} {c1 c2 : Nat} {sg mt : List Int} {L : Int} {bd : Nat} (h : RgC w A1 A2 A3 c1 c2 sg mt L bd) (hb : Below w.heap.size w w') : RgC w' A1 A2 A3 c1 c2 sg mt L bd :=
  ⟨h.db.below hb, (h.rl.below hb).imp fun b hb2 => by have := hb.size; omega⟩
theorem RgC.pack {w2 w : World} {A1 A2 A3 : Option Addr} {c1 c2 : Nat} {sg mt : List Int} {L : Int} {bd : Nat} (hc : RgC w2 A1 A2 A3 c1 c2 sg mt L bd) (h : Below w2.heap.size w2 w) :
    Hid (Below w2.heap.size w2 w) ∧ w.cell? ⟨bd, 0, none⟩ = some (.slice A1 sg.length c1) ∧ w.cell? ⟨bd, 1, none⟩ = some (.slice A2 mt.length c2) ∧ w.cell? ⟨bd, 2, none⟩ = some (.int .i64 L) :=
  have hd := hc.db.below h
  ⟨h, hd.c0, hd.c1, hd.c2⟩

section
variable (A1 A2 : Option Addr) (c1 c2 : Nat) (sg mt : List Int) (L : Int) (w : World) (S : Nat → Prop) (hx : RI w S A1 sg) (hy : RI w S A2 mt) (hS : ∀ b, S b → b < w.heap.size)
include hx hy hS
set_option maxHeartbeats 4000000 in
theorem rsgraph_any (hd : IsD sg mt L) :
    Calls Try.prog 23 #[.agg #[.slice A1 sg.length c1, .slice A2 mt.length c2, .int .i64 L]] w fun e w' => ∃ v, e = .returned (.tuple #[v, .int .i64 ((circL sg mt).length + L)]) ∧ OP w' w.heap.size v (sedges sg mt sg.length) ∧ Below w.heap.size w w' := by
  have HD := Lib.hid (DBox.start (c1 := c1) (c2 := c2) (L := L) S hx hy hS)
  have hb0 : Below w.heap.size w (w.alloc (.cells #[.slice A1 sg.length c1, .slice A2 mt.length c2, .int .i64 L] 24)) := (Below.refl _ _).alloc (Nat.le_refl _) _
  have H := Lib.hid hd
  have hcl : (circL sg mt).length ≤ 256 := by
    have := cycsL_len (nxC sg mt) mt.length (outB sg) mt.length
    rw [rows_cycs_length] at this
    have := hd.1
    have := hd.2.1
    unfold circL
    omega
  have HS := Lib.hid hd.2.2.2.2.1
  obtain ⟨h1, h2, h3, h4, -, h6, -, -⟩ := hd
  have HN := Lib.hid h2
  have hml : mt.length ≤ 256 := by omega
  clear hx hy hS h6 h2
  go_enter Try.func23, Try.ntmps23
  go_wp2_with fail
  refine (rcircles_any A1 A2 c1 c2 sg mt L _ (· < (w.alloc (.cells #[.slice A1 sg.length c1, .slice A2 mt.length c2, .int .i64 L] 24)).heap.size) HD.out.rs HD.out.rm (fun _ h => h) H.out).mono ?_
  rintro e w2 ⟨v, rfl, hr, hb2⟩
  obtain ⟨A3, c3, rfl, hrl⟩ := hr.reads
  rw [rows_cycs_length]
  have hb3 := hb0.trans (hb2.mono hb0.size)
  have HB2 := Lib.hid hb3
  have HC := Lib.hid (RgC.mk (HD.out.below hb2) (hrl.imp (T := (· < w2.heap.size)) fun b hb => hb.2))
  have hs2 := hb3.size
  clear hr hrl hb2 hb0 hb3 HD
  have HQ0 : Hid (GqSt w2 w2 (.slice none 0 0) (sedges sg mt 0)) := ⟨Below.refl _ _, OP.nil _ _⟩
  have k0 := HC.out.db.c0
  go_wp2_with fail
  clear k0
  go_loopw [5, 6] (fun v i wr => ∃ k : Nat, k ≤ sg.length ∧ i = .int .i64 k ∧ Hid (GqSt w2 wr v (sedges sg mt k))) (fun _ i _ => sg.length - (intOf i).toNat)
  case atStart => exact ⟨0, Nat.zero_le _, rfl, HQ0⟩
  case round =>
    clear HQ0
    obtain ⟨k, hk, rfl, HQ⟩ := hrel
    have HC2 := Lib.hid (HC.out.below HQ.out.bl)
    have k0 := HC2.out.db.c0
    have k1 := HC2.out.db.c1
    have k2 := HC2.out.db.c2
    by_cases hlt : k < sg.length
    · have hov := over_out HS.out hlt
      have hsg := HS.out k hlt
      obtain ⟨o, ho⟩ : ∃ o, overN sg k = o := ⟨_, rfl⟩
      have hov2 : 4 * (k : Int) + 2 - gi sg k = (o : Int) := by
        rw [← ho]
        unfold overN
        rcases hsg with e | e
        · rw [if_pos e, e]; omega
        · rw [if_neg (by omega), e]; omega
      rw [ho] at hov
      have hol : o < mt.length := by have := HN.out; omega
      have hil : 4 * k + 2 < mt.length := by have := HN.out; omega
      have o1 : outB sg (4 * k + 2) = true := (outB_slots HS.out hlt).2.1
      have e1 : outEnd sg mt (4 * k + 2) = 4 * k + 2 := if_pos o1
      have e2 : outEnd sg mt o = o := if_pos hov.1
      obtain ⟨x, hxx⟩ : ∃ x, numN (nxC sg mt) mt.length (outB sg) (4 * k + 2) = x := ⟨_, rfl⟩
      obtain ⟨y, hyy⟩ : ∃ y, numN (nxC sg mt) mt.length (outB sg) o = y := ⟨_, rfl⟩
      have HE := Lib.hid (show sedge sg mt k = ((x : Int), (y : Int)) by
        unfold sedge numI
        rw [ho, if_pos o1, if_pos hov.1, hxx, hyy])
      have hxx' : numN (nxC sg mt) mt.length (outB sg) (outEnd sg mt (4 * k + 2)) = x := by rw [e1, hxx]
      have hyy' : numN (nxC sg mt) mt.length (outB sg) (outEnd sg mt o) = y := by rw [e2, hyy]
      have HXX := Lib.hid hxx'
      have HYY := Lib.hid hyy'
      have hlen : (sedges sg mt k).length < 1099511627776 := by rw [sedges_length]; omega
      have HLE := Lib.hid hlen
      obtain ⟨s, hs⟩ : ∃ s, gi sg k = s := ⟨_, rfl⟩
      have hsb : -1 ≤ s ∧ s ≤ 1 := by omega
      obtain ⟨b1, f1, hA1, -, hc1⟩ := HC2.out.db.rs.at_ hlt
      have k3 := hc1 k hlt
      rw [hs] at k3 hov2
      subst hA1
      have w1' : IntKind.i64.wrap (4 * (k : Int)) = 4 * (k : Int) := IntWalk.i64_in _ (by omega)
      have w2' : IntKind.i64.wrap (4 * (k : Int) + 2) = 4 * (k : Int) + 2 := IntWalk.i64_in _ (by omega)
      clear hc1 hxx hyy hxx' hyy' e1 e2 o1 hov hlen ho hs hsg
      go_wp2_with fail
      go_region_held3 (fun w' => Hid (Below w2.heap.size w2 w') ∧ w'.cell? ⟨w.heap.size, 0, none⟩ = some (.slice (some ⟨b1, f1, none⟩) sg.length c1) ∧ w'.cell? ⟨w.heap.size, 1, none⟩ = some (.slice A2 mt.length c2) ∧ w'.cell? ⟨w.heap.size, 2, none⟩ = some (.int .i64 L))
        (first | exact HC.out.pack HQ.out.drew.bl | exact HC.out.pack (HQ.out.drew.call hb9).bl | exact HC.out.pack (HQ.out.drew.call hb10).bl | exact HC.out.pack ((HQ.out.drew.call hb9).call hb10).bl | exact HC.out.pack ((HQ.out.drew.call hb10).call hb9).bl | exact HC.out.pack (((HQ.out.drew.call hb9).call hb10).alloc _).bl | exact HC.out.pack (((HQ.out.drew.call hb10).call hb9).alloc _).bl | exact HC.out.pack hq8.bl)
        (first | (go_at_call 44; with_reducible (show Calls _ _ #[_, _, Value.int .i64 (4 * (k : Int) + 2)] _ _); ((with_reducible refine (rcircle_any (some ⟨b1, f1, none⟩) A2 A3 c1 c2 c3 sg mt L _ (4 * k + 2) _ (HC.out.below (Hid.out (And.left (by assumption)))).db.rs (HC.out.below (Hid.out (And.left (by assumption)))).db.rm (HC.out.below (Hid.out (And.left (by assumption)))).rl H.out hil (by omega) _ rfl).mono ?_); rintro e9 w9 ⟨rfl, hb9⟩; rw [HXX.out])) | (go_at_call 44; with_reducible (show Calls _ _ #[_, _, Value.int .i64 ((o : Int))] _ _); ((with_reducible refine (rcircle_any (some ⟨b1, f1, none⟩) A2 A3 c1 c2 c3 sg mt L _ o _ (HC.out.below (Hid.out (And.left (by assumption)))).db.rs (HC.out.below (Hid.out (And.left (by assumption)))).db.rm (HC.out.below (Hid.out (And.left (by assumption)))).rl H.out hol rfl _ rfl).mono ?_); rintro e10 w10 ⟨rfl, hb10⟩; rw [HYY.out])) | (refine step_app_pair (v := u5) (ps := sedges sg mt k) (B := w2.heap.size) (by first | exact (((HQ.out.drew.call hb9).call hb10).alloc _).op | exact (((HQ.out.drew.call hb10).call hb9).alloc _).op) HLE.out (by first | exact (((HQ.out.drew.call hb9).call hb10).alloc _).bl.size | exact (((HQ.out.drew.call hb10).call hb9).alloc _).bl.size) (heap_alloc_new _ _) rfl rfl Try.underlying36 rfl rfl ?_; intro v8 w8 ho8 hg8 hob8; have hq8 := GqSt.push (w2 := w2) (by first | exact (((HQ.out.drew.call hb9).call hb10).alloc _) | exact (((HQ.out.drew.call hb10).call hb9).alloc _)) ho8 hg8))
      all_goals
        have HQ9 : Hid (GqSt w2 w8 v8 (sedges sg mt (k + 1))) := by
          rw [sedges_succ, HE.out]; exact hq8
        clear hq8 ho8 hg8 hob8 hb9 hb10
        go_wp2_with fail
        go_roundw
        case rel => exact ⟨k + 1, by omega, by go_num, HQ9⟩
        case measure => simp [intOf]; omega
    · obtain rfl : sg.length = k := by omega
      have HB9 := Lib.hid (HB2.out.trans (HQ.out.bl.mono hs2))
      have HO9 := Lib.hid (HQ.out.op.mono hs2)
      clear HQ hlt
      go_wp2_with fail
      go_quiet (fail)
      go_wp2_with fail
      go_ret2
      exact ⟨_, rfl, HO9.out, below_drewN HB9.out _⟩
end
end Go.Proofs.Ytaghemilihaiaaa

