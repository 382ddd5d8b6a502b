/-
  The law DiagramSpoils, walked: the call returns true and writes nothing that was there.
-/
import Derived.Test.YtkanpcdjhaepjaaSpoilM
import Derived.Test.YtkanpcdjhaepjaaDClone
import Derived.Deep.RegionHeld3
import Derived.IntWalk
namespace Go.Proofs.Ytkanpcdjhaepjaa
open Go.RowKit

/-- a box of a diagram whose rows lie below the block M -/
structure KBox (w : World) (bd M : Nat) (A1 A2 : Option Addr) (c1 c2 : Nat) (sg mt : List Int) (L : Int) : Prop where
  c0 : w.cell? ⟨bd, 0, none⟩ = some (.slice A1 sg.length c1)
  c1 : w.cell? ⟨bd, 1, none⟩ = some (.slice A2 mt.length c2)
  c2 : w.cell? ⟨bd, 2, none⟩ = some (.int .i64 L)
  lt : bd < M
  le : M ≤ w.heap.size
  rs : RI w (· < M) A1 sg
  rm : RI w (· < M) A2 mt
section
variable {w w' : World} {bd M : Nat} {A1 A2 : Option Addr} {c1 c2 : Nat} {sg mt : List Int} {L : Int}
theorem KBox.below (h : KBox w bd M A1 A2 c1 c2 sg mt L) (hb : Below M w w') (hs : w.heap.size ≤ w'.heap.size) : KBox w' bd M A1 A2 c1 c2 sg mt L :=
  ⟨(hb.cell (p := ⟨bd, 0, none⟩) h.lt).trans h.c0, (hb.cell (p := ⟨bd, 1, none⟩) h.lt).trans h.c1, (hb.cell (p := ⟨bd, 2, none⟩) h.lt).trans h.c2, h.lt, Nat.le_trans h.le hs, h.rs.below hb, h.rm.below hb⟩
theorem KBox.call (h : KBox w bd M A1 A2 c1 c2 sg mt L) (hb : Below w.heap.size w w') : KBox w' bd M A1 A2 c1 c2 sg mt L := h.below (hb.mono h.le) hb.size
theorem KBox.alloc (h : KBox w bd M A1 A2 c1 c2 sg mt L) (o : Obj) : KBox (w.alloc o) bd M A1 A2 c1 c2 sg mt L := h.call ((Below.refl _ _).alloc (Nat.le_refl _) _)
theorem KBox.drew (h : KBox w bd M A1 A2 c1 c2 sg mt L) : KBox w.drew bd M A1 A2 c1 c2 sg mt L := h.call (Below.refl _ _).drew
theorem KBox.store (h : KBox w bd M A1 A2 c1 c2 sg mt L) {g k : Nat} (hg : M ≤ g) (v : Value) : KBox (w.setCell ⟨g, k, none⟩ v) bd M A1 A2 c1 c2 sg mt L :=
  h.below ((Below.refl M w).setCell hg _) (by simp)
theorem KBox.db (h : KBox w bd M A1 A2 c1 c2 sg mt L) : DBox w bd A1 A2 c1 c2 sg mt L :=
  ⟨h.c0, h.c1, h.c2, Nat.lt_of_lt_of_le h.lt h.le, h.rs.imp fun _ hb => Nat.lt_of_lt_of_le hb h.le, h.rm.imp fun _ hb => Nat.lt_of_lt_of_le hb h.le⟩
theorem KBox.new {S : Nat → Prop} {n m : Nat} (hn : sg.length = n) (hm : mt.length = m) (hx : RI w S A1 sg) (hy : RI w S A2 mt) (hS : ∀ b, S b → b < w.heap.size) :
    KBox (w.alloc (.cells #[.slice A1 n c1, .slice A2 m c2, .int .i64 L] 24)) w.heap.size (w.heap.size + 1) A1 A2 c1 c2 sg mt L := by
  subst hn hm
  obtain ⟨h0, h1, h2⟩ := box_cells (Below.refl (w.heap.size + 1) (w.alloc (.cells #[.slice A1 sg.length c1, .slice A2 mt.length c2, .int .i64 L] 24)))
  exact ⟨h0, h1, h2, by omega, by simp, (hx.keep fun b hb => Below.heap_alloc w _ b (hS b hb)).imp fun b hb => by have := hS b hb; omega,
    (hy.keep fun b hb => Below.heap_alloc w _ b (hS b hb)).imp fun b hb => by have := hS b hb; omega⟩
theorem RI.take {S : Nat → Prop} {A : Option Addr} {xs : List Int} (h : RI w S A xs) (k : Nat) : RI w S A (xs.take k) := fun hne => by
  have h0 : xs ≠ [] := by rintro rfl; exact hne (by simp)
  obtain ⟨b, off, e, hb, hc⟩ := h h0
  refine ⟨b, off, e, hb, fun j hj => ?_⟩
  rw [List.length_take] at hj
  rw [hc j (by omega)]
  simp only [gi, List.getD_eq_getElem?_getD]
  rw [List.getElem?_take_of_lt (by omega)]
theorem kvalid_no (h : KBox w bd M A1 A2 c1 c2 sg mt L) {n m : Nat} (hn : sg.length = n) (hm : mt.length = m) (hl : n ≤ 1000) (hl' : m ≤ 1000) (hno : ¬ IsD sg mt L) :
    Calls Try.prog 19 #[.agg #[.slice A1 n c1, .slice A2 m c2, .int .i64 L]] w fun e w' => e = .returned (.bool false) ∧ Below w.heap.size w w' := by
  subst hn hm
  exact dvalid_is (· < w.heap.size) false h.db.rs h.db.rm (fun _ h => h) (by unfold maxLen; omega) (by unfold maxLen; omega) (decide_eq_false hno)
theorem kbox_sign {B : Nat} (hf : Fresh w B (.slice A1 sg.length c1) (.slice A2 mt.length c2) sg mt) {c : Nat} (hc : c < sg.length) : ∃ g, A1 = some ⟨g, 0, none⟩ ∧ B ≤ g ∧ g < w.heap.size ∧
    (w.alloc (.cells #[.slice A1 sg.length c1, .slice A2 mt.length c2, .int .i64 L] 24)).cell? ⟨g, c, none⟩ = some (.int .i64 (gi sg c)) ∧
    (w.alloc (.cells #[.slice A1 sg.length c1, .slice A2 mt.length c2, .int .i64 L] 24)).frozen? ⟨g, c, none⟩ = false ∧
    ∀ y, KBox ((w.alloc (.cells #[.slice A1 sg.length c1, .slice A2 mt.length c2, .int .i64 L] 24)).setCell ⟨g, c, none⟩ (.int .i64 y)) w.heap.size (w.heap.size + 1) A1 A2 c1 c2 (sg.set c y) mt L := by
  obtain ⟨g, c', hv, h2, h3, h4, h5, h6, h7⟩ := hf.os.ints (by omega)
  injection hv with e1 _ e3
  subst e1 e3
  have ho := hf.os.alloc (.cells #[.slice (some ⟨g, 0, none⟩) sg.length c1, .slice A2 mt.length c2, .int .i64 L] 24)
  have hm : RI w (fun b => b ≠ g ∧ b < w.heap.size) A2 mt := fun hne => by
    obtain ⟨g2, c'', hv2, k2, k3, k4, k5, k6, k7⟩ := hf.om.ints (by
      rcases mt with _ | ⟨y, ys⟩
      · exact absurd rfl hne
      · simp)
    injection hv2 with e1 _ e3
    subst e1
    refine ⟨g2, 0, rfl, ⟨fun e => hf.ne g rfl (by subst e; rfl), k3⟩, fun k hk => by rw [Nat.zero_add]; exact k6 k hk⟩
  refine ⟨g, rfl, h2, h3, ?_, ?_, fun y => ?_⟩
  · have := (OR.ints_at ho (by omega)).2.2.2.2.1 c hc
    exact this
  · exact (OR.ints_at ho (by omega)).2.2.2.2.2 c
  · have hs := OR.stored (k := c) ho y
    have hsc := (OR.ints_at hs (by rw [List.length_set]; omega)).2.2.2.2.1
    have hbe : ∀ b, b ≠ g → ((w.alloc (.cells #[.slice (some ⟨g, 0, none⟩) sg.length c1, .slice A2 mt.length c2, .int .i64 L] 24)).setCell ⟨g, c, none⟩ (.int .i64 y)).heap[b]? = (w.alloc (.cells #[.slice (some ⟨g, 0, none⟩) sg.length c1, .slice A2 mt.length c2, .int .i64 L] 24)).heap[b]? := fun b hb => Below.heap_setCell _ _ _ b hb
    obtain ⟨b0, b1, b2⟩ := box_cells (Below.refl (w.heap.size + 1) (w.alloc (.cells #[.slice (some ⟨g, 0, none⟩) sg.length c1, .slice A2 mt.length c2, .int .i64 L] 24)))
    have hne : w.heap.size ≠ g := by omega
    refine ⟨?_, ?_, ?_, by omega, by simp, fun _ => ⟨g, 0, rfl, by omega, fun k hk => by rw [Nat.zero_add]; exact hsc k hk⟩, ?_⟩
    · rw [List.length_set]
      exact (World.cell?_of_block (a := ⟨w.heap.size, 0, none⟩) (hbe _ hne)).trans b0
    · exact (World.cell?_of_block (a := ⟨w.heap.size, 1, none⟩) (hbe _ hne)).trans b1
    · exact (World.cell?_of_block (a := ⟨w.heap.size, 2, none⟩) (hbe _ hne)).trans b2
    · exact (hm.keep fun b hb => by rw [hbe b hb.1, Below.heap_alloc w _ b hb.2]).imp fun b hb => by omega
end

section
variable (A1 A2 : Option Addr) (c1 c2 : Nat) (sg mt : List Int) (L : Int) (w : World) (hd : DArg w A1 A2 sg mt L) (a : Int)
include hd

set_option maxHeartbeats 2000000 in
theorem spo_great (hg : 70 < sg.length ∨ 300 < mt.length) :
    Calls Try.prog 5 #[.agg #[.slice A1 sg.length c1, .slice A2 mt.length c2, .int .i64 L], .int .u16 a] w fun e w' => e = .returned (.bool true) ∧ Below w.heap.size w w' := by
  have HD := Lib.hid (DBox.start (c1 := c1) (c2 := c2) (L := L) (· < w.heap.size) hd.rs hd.rm (fun _ h => h))
  have HG := Lib.hid hg
  clear hd hg
  go_enter Try.func5, Try.ntmps5
  go_wp2_with fail
  refine (awake_any _).mono ?_
  rintro e w1 ⟨rfl, hb1⟩
  have HD1 := Lib.hid (HD.out.below hb1)
  have k0 := HD1.out.c0
  have k1 := HD1.out.c1
  have k2 := HD1.out.c2
  have HB1 := Lib.hid (below_box (o := .cells #[.slice A1 sg.length c1, .slice A2 mt.length c2, .int .i64 L] 24) (by simpa using hb1))
  clear hb1
  go_wp2_with fail
  refine (great_yes A1 A2 c1 c2 sg mt L w1 HG.out).mono ?_
  rintro e w2 ⟨rfl, hb2⟩
  have HB2 := Lib.hid (HB1.out.trans (hb2.mono HB1.out.size))
  clear hb2 k0 k1 k2
  go_wp2_with fail
  go_ret
  exact ⟨rfl, HB2.out⟩

set_option maxHeartbeats 4000000 in
theorem spo_no (hg1 : ¬ 70 < sg.length) (hg2 : ¬ 300 < mt.length) (hno : ¬ IsD sg mt L) :
    Calls Try.prog 5 #[.agg #[.slice A1 sg.length c1, .slice A2 mt.length c2, .int .i64 L], .int .u16 a] w fun e w' => e = .returned (.bool true) ∧ Below w.heap.size w w' := by
  have HD := Lib.hid (DBox.start (c1 := c1) (c2 := c2) (L := L) (· < w.heap.size) hd.rs hd.rm (fun _ h => h))
  have HL1 := Lib.hid hd.ls
  have HL2 := Lib.hid hd.lm
  have HG1 := Lib.hid hg1
  have HG2 := Lib.hid hg2
  have HNO := Lib.hid hno
  clear hd hg1 hg2 hno
  go_enter Try.func5, Try.ntmps5
  go_wp2_with fail
  refine (awake_any _).mono ?_
  rintro e w1 ⟨rfl, hb1⟩
  have HD1 := Lib.hid (HD.out.below hb1)
  have k0 := HD1.out.c0
  have k1 := HD1.out.c1
  have k2 := HD1.out.c2
  have HB1 := Lib.hid (below_box (o := .cells #[.slice A1 sg.length c1, .slice A2 mt.length c2, .int .i64 L] 24) (by simpa using hb1))
  clear hb1
  go_wp2_with fail
  refine (great_no A1 A2 c1 c2 sg mt L w1 HG1.out HG2.out).mono ?_
  rintro e w2 ⟨rfl, hb2⟩
  have HB2 := Lib.hid (HB1.out.trans (hb2.mono HB1.out.size))
  have HD2 := Lib.hid (HD1.out.below hb2)
  clear hb2 k0 k1 k2 HD HD1 HB1
  have k0 := HD2.out.c0
  have k1 := HD2.out.c1
  have k2 := HD2.out.c2
  go_wp2_with fail
  refine (dvalid_is (· < w2.heap.size) false HD2.out.rs HD2.out.rm (fun _ h => h) HL1.out HL2.out (decide_eq_false HNO.out)).mono ?_
  rintro e w3 ⟨rfl, hb3⟩
  have HB3 := Lib.hid (HB2.out.trans (hb3.mono HB2.out.size))
  clear hb3 k0 k1 k2
  go_wp2_with fail
  go_ret
  exact ⟨rfl, HB3.out⟩

set_option maxHeartbeats 4000000 in
theorem spo_empty (hg1 : ¬ 70 < sg.length) (hg2 : ¬ 300 < mt.length) (hno : IsD sg mt L) (he : sg.length = 0) :
    Calls Try.prog 5 #[.agg #[.slice A1 sg.length c1, .slice A2 mt.length c2, .int .i64 L], .int .u16 a] w fun e w' => e = .returned (.bool true) ∧ Below w.heap.size w w' := by
  have HD := Lib.hid (DBox.start (c1 := c1) (c2 := c2) (L := L) (· < w.heap.size) hd.rs hd.rm (fun _ h => h))
  have HL1 := Lib.hid hd.ls
  have HL2 := Lib.hid hd.lm
  have HG1 := Lib.hid hg1
  have HG2 := Lib.hid hg2
  have HNO := Lib.hid hno
  have hn0 : ((sg.length : Int) == 0) = true := by rw [beq_iff_eq]; omega
  clear hd hg1 hg2 hno he
  go_enter Try.func5, Try.ntmps5
  go_wp2_with fail
  refine (awake_any _).mono ?_
  rintro e w1 ⟨rfl, hb1⟩
  have HD1 := Lib.hid (HD.out.below hb1)
  have k0 := HD1.out.c0
  have k1 := HD1.out.c1
  have k2 := HD1.out.c2
  have HB1 := Lib.hid (below_box (o := .cells #[.slice A1 sg.length c1, .slice A2 mt.length c2, .int .i64 L] 24) (by simpa using hb1))
  clear hb1
  go_wp2_with fail
  refine (great_no A1 A2 c1 c2 sg mt L w1 HG1.out HG2.out).mono ?_
  rintro e w2 ⟨rfl, hb2⟩
  have HB2 := Lib.hid (HB1.out.trans (hb2.mono HB1.out.size))
  have HD2 := Lib.hid (HD1.out.below hb2)
  clear hb2 k0 k1 k2 HD HD1 HB1
  have k0 := HD2.out.c0
  have k1 := HD2.out.c1
  have k2 := HD2.out.c2
  go_wp2_with fail
  refine (dvalid_is (· < w2.heap.size) true HD2.out.rs HD2.out.rm (fun _ h => h) HL1.out HL2.out (decide_eq_true HNO.out)).mono ?_
  rintro e w3 ⟨rfl, hb3⟩
  have HB3 := Lib.hid (HB2.out.trans (hb3.mono HB2.out.size))
  have HD3 := Lib.hid (HD2.out.below hb3)
  clear hb3 k0 k1 k2
  have k0 := HD3.out.c0
  go_wp2_with fail
  go_ret
  exact ⟨rfl, HB3.out⟩

end

section
variable (A1 A2 : Option Addr) (c1 c2 : Nat) (sg mt : List Int) (L : Int) (w : World) (hd : DArg w A1 A2 sg mt L) (at_ : Nat) (hat : at_ ≤ 65535)
include hd hat

set_option maxRecDepth 100000 in
set_option maxHeartbeats 8000000 in
theorem spo_yes (hg1 : ¬ 70 < sg.length) (hg2 : ¬ 300 < mt.length) (hyes : IsD sg mt L) (hpos : 0 < sg.length) :
    Calls Try.prog 5 #[.agg #[.slice A1 sg.length c1, .slice A2 mt.length c2, .int .i64 L], .int .u16 (at_ : Int)] w fun e w' => e = .returned (.bool true) ∧ Below w.heap.size w w' := by
  have HW1 := Lib.hid hd.rs
  have HW2 := Lib.hid hd.rm
  have HO := Lib.hid (KBox.new (c1 := c1) (c2 := c2) (L := L) rfl rfl hd.rs hd.rm (fun _ h => h))
  have HL1 := Lib.hid hd.ls
  have HL2 := Lib.hid hd.lm
  have HG1 := Lib.hid hg1
  have HG2 := Lib.hid hg2
  have HYES := Lib.hid hyes
  have hsl : sg.length ≤ 70 := by omega
  have hml : mt.length ≤ 300 := by omega
  have hn0 : ((sg.length : Int) == 0) = false := by rw [beq_eq_false_iff_ne]; omega
  have z0 : ¬ (sg.length : Int) = 0 := by omega
  have z0n : ¬ sg.length = 0 := by omega
  obtain ⟨c, hc⟩ : ∃ c, at_ % sg.length = c := ⟨_, rfl⟩
  have hcl : c < sg.length := by rw [← hc]; exact Nat.mod_lt _ hpos
  have q1 : ((at_ : Int)).tmod (sg.length : Int) = (c : Int) := by rw [← hc]; exact Int.ofNat_tmod at_ sg.length
  clear hd hg1 hg2 hyes hc
  go_enter Try.func5, Try.ntmps5
  go_wp2_with fail
  refine (awake_any _).mono ?_
  rintro e w1 ⟨rfl, hb1⟩
  have HO1 := Lib.hid (HO.out.call hb1)
  have k0 := HO1.out.c0
  have k1 := HO1.out.c1
  have k2 := HO1.out.c2
  have HB1 := Lib.hid (below_box (o := .cells #[.slice A1 sg.length c1, .slice A2 mt.length c2, .int .i64 L] 24) (by simpa using hb1))
  clear hb1
  go_wp2_with fail
  refine (great_no A1 A2 c1 c2 sg mt L w1 HG1.out HG2.out).mono ?_
  rintro e w2 ⟨rfl, hb2⟩
  have HB2 := Lib.hid (HB1.out.trans (hb2.mono HB1.out.size))
  have HO2 := Lib.hid (HO1.out.call hb2)
  clear hb2 k0 k1 k2 HO HO1 HB1
  have k0 := HO2.out.c0
  have k1 := HO2.out.c1
  have k2 := HO2.out.c2
  go_wp2_with fail
  refine (dvalid_is (· < w2.heap.size) true HO2.out.db.rs HO2.out.db.rm (fun _ h => h) HL1.out HL2.out (decide_eq_true HYES.out)).mono ?_
  rintro e w3 ⟨rfl, hb3⟩
  have HB3 := Lib.hid (HB2.out.trans (hb3.mono HB2.out.size))
  have HO3 := Lib.hid (HO2.out.call hb3)
  clear hb3 k0 k1 k2 HO2 HB2
  have k0 := HO3.out.c0
  have k1 := HO3.out.c1
  have k2 := HO3.out.c2
  go_wp2_with fail
  refine (dclone_any A1 A2 c1 c2 sg mt L w3 (· < w3.heap.size) HO3.out.db.rs HO3.out.db.rm (fun _ h => h) (by omega) (by omega)).mono ?_
  rintro e w4 ⟨v1, v2, rfl, hf4, hb4⟩
  obtain ⟨X1, d1, rfl, -, -, -⟩ := hf4.os.shape
  obtain ⟨Y1, e1, rfl, -, -, -⟩ := hf4.om.shape
  have HF4 := Lib.hid hf4
  have HB4 := Lib.hid (HB3.out.trans (hb4.mono HB3.out.size))
  have HO4 := Lib.hid (HO3.out.call hb4)
  clear hb4 hf4 k0 k1 k2
  go_wp2_with fail
  obtain ⟨gs, rfl, hgB, hgl, kc, kf, ks⟩ := kbox_sign (L := L) HF4.out hcl
  obtain ⟨k0, k1, k2⟩ := box_cells (Below.refl (w4.heap.size + 1) (w4.alloc (.cells #[.slice (some ⟨gs, 0, none⟩) sg.length d1, .slice Y1 mt.length e1, .int .i64 L] 24)))
  have KS := Lib.hid ks
  have hb5 := HB4.out.trans ((Below.refl w4.heap.size w4).alloc (Nat.le_refl _) (.cells #[.slice (some ⟨gs, 0, none⟩) sg.length d1, .slice Y1 mt.length e1, .int .i64 L] 24) |>.mono HB4.out.size)
  have HB5 := Lib.hid hb5
  have HO5 := Lib.hid (HO4.out.alloc (.cells #[.slice (some ⟨gs, 0, none⟩) sg.length d1, .slice Y1 mt.length e1, .int .i64 L] 24))
  have hgW : w.heap.size + 1 ≤ gs := by have := HO3.out.le; omega
  obtain ⟨b1, hb1⟩ : ∃ b, w4.heap.size = b := ⟨_, rfl⟩
  rw [hb1] at k0 k1 k2 KS hgl ⊢
  obtain ⟨s, hs⟩ : ∃ s, gi sg c = s := ⟨_, rfl⟩
  have hs1 := HYES.out.2.2.2.2.1 c hcl
  have HNO := Lib.hid (flip_no HYES.out hcl)
  rw [hs] at kc hs1 HNO
  have q2 : IntKind.i64.wrap (-s) = -s := IntWalk.i64_in _ (by omega)
  have hlen5 : (w4.alloc (.cells #[.slice (some ⟨gs, 0, none⟩) sg.length d1, .slice Y1 mt.length e1, .int .i64 L] 24)).heap.size = b1 + 1 := by simp [hb1]
  have HLEN := Lib.hid hlen5
  clear hb5 ks hlen5 hb1 hs
  generalize w4.alloc (.cells #[.slice (some ⟨gs, 0, none⟩) sg.length d1, .slice Y1 mt.length e1, .int .i64 L] 24) = w5 at *
  have z1 : (0 : Int) ≤ (c : Int) ∧ (c : Int) < (sg.length : Int) := by omega
  go_wp2_with fail
  go_still_tail 10, (by kernel_rfl)
  go_wp2_with fail
  have K6 := Lib.hid (KS.out (-s)).drew
  refine (kvalid_no K6.out (List.length_set ..) rfl (by omega) (by omega) HNO.out).mono ?_
  rintro e w7 ⟨rfl, hb7⟩
  have hs6 : (w5.setCell ⟨gs, c, none⟩ (.int .i64 (-s))).drew.heap.size = b1 + 1 := by simp [HLEN.out]
  have hb6 : Below w.heap.size w (w5.setCell ⟨gs, c, none⟩ (.int .i64 (-s))).drew := (HB5.out.setCell (p := ⟨gs, c, none⟩) (by show w.heap.size ≤ gs; omega) _).drew
  have HB7 := Lib.hid (hb6.trans (hb7.mono hb6.size))
  have HO7 := Lib.hid ((HO5.out.store hgW (k := c) (.int .i64 (-s))).drew.call hb7)
  clear hb6 hb7 hs6 K6 KS kc kf k0 k1 k2 q2 HNO hs1 HO5 HB5 HLEN HF4 HO4 HB4 hgB hgl HO3 HB3
  have k0 := HO7.out.c0
  have k1 := HO7.out.c1
  have k2 := HO7.out.c2
  go_wp2_with fail
  refine (dclone_any A1 A2 c1 c2 sg mt L w7 (· < w7.heap.size) HO7.out.db.rs HO7.out.db.rm (fun _ h => h) (by omega) (by omega)).mono ?_
  rintro e w8 ⟨v1, v2, rfl, hf8, hb8⟩
  obtain ⟨X2, d2, rfl, -, -, -⟩ := hf8.os.shape
  obtain ⟨Y2, e2, rfl, he2, -, -⟩ := hf8.om.shape
  have HF8 := Lib.hid hf8
  have HB8 := Lib.hid (HB7.out.trans (hb8.mono HB7.out.size))
  have HO8 := Lib.hid (HO7.out.call hb8)
  clear hb8 hf8 k0 k1 k2
  have k0 := HO8.out.c0
  have k1 := HO8.out.c1
  have k2 := HO8.out.c2
  have lt8 : w.heap.size < w8.heap.size := HO8.out.le
  have m1 : (1 : Int) ≤ (mt.length : Int) := by have := HYES.out.2.1; omega
  have m2 : (mt.length : Int) - 1 ≤ (e2 : Int) := by omega
  go_wp2_with fail
  have hb9 := (Below.refl w8.heap.size w8).alloc (Nat.le_refl _) (.cells #[.slice X2 sg.length d2, .slice Y2 (mt.length - 1) e2, .int .i64 L] 24)
  have HB9 := Lib.hid (HB8.out.trans (hb9.mono HB8.out.size))
  have HO9 := Lib.hid (HO8.out.call hb9)
  have K9 : Hid (KBox (w8.alloc (.cells #[.slice X2 sg.length d2, .slice Y2 (mt.length - 1) e2, .int .i64 L] 24)) w8.heap.size (w8.heap.size + 1) X2 Y2 d2 e2 sg (mt.take (mt.length - 1)) L) := by
    obtain ⟨A, c', hv, -, -, hr⟩ := HF8.out.os.reads
    injection hv with e1 _ _
    subst e1
    obtain ⟨A', c'', hv', -, -, hr'⟩ := HF8.out.om.reads
    injection hv' with e1 _ _
    subst e1
    exact Lib.hid (KBox.new rfl (by rw [List.length_take]; omega) hr (hr'.take _) (fun b h => h.2))
  obtain ⟨b2, hb2⟩ : ∃ b, w8.heap.size = b := ⟨_, rfl⟩
  rw [hb2] at K9 ⊢
  clear hb9 hb2 k0 k1 k2 HF8 HB8 HO8 m2 he2 lt8
  generalize w8.alloc (.cells #[.slice X2 sg.length d2, .slice Y2 (mt.length - 1) e2, .int .i64 L] 24) = w9 at *
  refine (dclone_any A1 A2 c1 c2 sg mt L w9 (· < w9.heap.size) HO9.out.db.rs HO9.out.db.rm (fun _ h => h) (by omega) (by omega)).mono ?_
  rintro e w10 ⟨v1, v2, rfl, hf10, hb10⟩
  obtain ⟨X3, d3, rfl, -, -, -⟩ := hf10.os.shape
  obtain ⟨Y3, e3, rfl, -, -, -⟩ := hf10.om.shape
  have HF10 := Lib.hid hf10
  have HB10 := Lib.hid (HB9.out.trans (hb10.mono HB9.out.size))
  have HO10 := Lib.hid (HO9.out.call hb10)
  have K10 := Lib.hid (K9.out.call hb10)
  clear hb10 hf10 K9 HO9 HB9
  have k0 := HO10.out.c0
  have k1 := HO10.out.c1
  have k2 := HO10.out.c2
  have lt10 : w.heap.size < w10.heap.size := HO10.out.le
  go_wp2_with fail
  have hb11 := (Below.refl w10.heap.size w10).alloc (Nat.le_refl _) (.cells #[.slice X3 sg.length d3, .slice Y3 mt.length e3, .int .i64 65] 24)
  have HB11 := Lib.hid (HB10.out.trans (hb11.mono HB10.out.size))
  have HO11 := Lib.hid (HO10.out.call hb11)
  have K11 := Lib.hid (K10.out.call hb11)
  have M11 : Hid (KBox (w10.alloc (.cells #[.slice X3 sg.length d3, .slice Y3 mt.length e3, .int .i64 65] 24)) w10.heap.size (w10.heap.size + 1) X3 Y3 d3 e3 sg mt 65) := by
    obtain ⟨A, c', hv, -, -, hr⟩ := HF10.out.os.reads
    injection hv with e1 _ _
    subst e1
    obtain ⟨A', c'', hv', -, -, hr'⟩ := HF10.out.om.reads
    injection hv' with e1 _ _
    subst e1
    exact Lib.hid (KBox.new rfl rfl hr hr' (fun b h => h.2))
  obtain ⟨b3, hb3⟩ : ∃ b, w10.heap.size = b := ⟨_, rfl⟩
  rw [hb3] at M11 ⊢
  clear hb11 hb3 k0 k1 k2 HF10 HB10 HO10 lt10 K10
  generalize w10.alloc (.cells #[.slice X3 sg.length d3, .slice Y3 mt.length e3, .int .i64 65] 24) = w11 at *
  refine (dclone_any A1 A2 c1 c2 sg mt L w11 (· < w11.heap.size) HO11.out.db.rs HO11.out.db.rm (fun _ h => h) (by omega) (by omega)).mono ?_
  rintro e w12 ⟨v1, v2, rfl, hf12, hb12⟩
  obtain ⟨X4, d4, rfl, -, -, -⟩ := hf12.os.shape
  obtain ⟨Y4, e4, rfl, -, -, -⟩ := hf12.om.shape
  obtain ⟨gz, rfl, hgB, hgl, kc, kf, ks⟩ := kbox_sign (L := L) hf12 hcl
  have HB12 := Lib.hid (HB11.out.trans (hb12.mono HB11.out.size))
  have K12 := Lib.hid (K11.out.call hb12)
  have M12 := Lib.hid (M11.out.call hb12)
  have hK := K11.out.le
  have hM := M11.out.le
  have hO := HO11.out.le
  have KZ := Lib.hid (ks 0)
  clear hb12 hf12 HO11 HB11 K11 M11 ks
  have hgO : w.heap.size ≤ gz := by omega
  have K13 := Lib.hid ((K12.out.alloc (.cells #[.slice (some ⟨gz, 0, none⟩) sg.length d4, .slice Y4 mt.length e4, .int .i64 L] 24)).store (g := gz) (by omega) (k := c) (.int .i64 0))
  have M13 := Lib.hid ((M12.out.alloc (.cells #[.slice (some ⟨gz, 0, none⟩) sg.length d4, .slice Y4 mt.length e4, .int .i64 L] 24)).store (g := gz) (by omega) (k := c) (.int .i64 0))
  have HB13 := Lib.hid ((HB12.out.alloc (HB12.out.size) (.cells #[.slice (some ⟨gz, 0, none⟩) sg.length d4, .slice Y4 mt.length e4, .int .i64 L] 24)).setCell (p := ⟨gz, c, none⟩) hgO (.int .i64 0))
  rw [World.setCell_alloc_past _ _ _ _ hgl] at K13 M13 HB13 KZ
  have k0 := K13.out.c0
  have k1 := K13.out.c1
  have k2 := K13.out.c2
  have hlt4 : (mt.take (mt.length - 1)).length = mt.length - 1 := by rw [List.length_take]; omega
  rw [hlt4] at k1
  have HLT := Lib.hid hlt4
  clear hlt4 K12 M12 HB12
  go_wp2_with fail
  refine (kvalid_no K13.out rfl HLT.out (by omega) (by omega) (short_no HYES.out hcl)).mono ?_
  rintro e w14 ⟨rfl, hb14⟩
  have HB14 := Lib.hid (HB13.out.trans (hb14.mono HB13.out.size))
  have M14 := Lib.hid (M13.out.call hb14)
  have Z14 := Lib.hid (KZ.out.call hb14)
  clear hb14 k0 k1 k2 K13 M13 KZ HB13 kc kf
  have k0 := M14.out.c0
  have k1 := M14.out.c1
  have k2 := M14.out.c2
  go_wp2_with fail
  refine (kvalid_no M14.out rfl rfl (by omega) (by omega) (many_no sg mt)).mono ?_
  rintro e w15 ⟨rfl, hb15⟩
  have HB15 := Lib.hid (HB14.out.trans (hb15.mono HB14.out.size))
  have Z15 := Lib.hid (Z14.out.call hb15)
  clear hb15 k0 k1 k2 M14 Z14 HB14
  have k0 := Z15.out.c0
  have k1 := Z15.out.c1
  have k2 := Z15.out.c2
  rw [List.length_set] at k0
  go_wp2_with fail
  refine (kvalid_no Z15.out (List.length_set ..) rfl (by omega) (by omega) (zero_no hcl)).mono ?_
  rintro e w16 ⟨rfl, hb16⟩
  have HB16 := Lib.hid (HB15.out.trans (hb16.mono HB15.out.size))
  clear hb16 k0 k1 k2 Z15 HB15
  go_wp2_with fail
  go_ret
  exact ⟨rfl, HB16.out⟩
end

theorem diagramSpoils_walk (A1 A2 : Option Addr) (c1 c2 : Nat) (sg mt : List Int) (L : Int) (a : Int) (w : World) (hd : DArg w A1 A2 sg mt L) (wa : (Lit.int .u16 a).wf = true) :
    Calls Try.prog 5 #[.agg #[.slice A1 sg.length c1, .slice A2 mt.length c2, .int .i64 L], .int .u16 a] w fun e w' => e = .returned (.bool true) ∧ Below w.heap.size w w' := by
  have hmin : IntKind.u16.min = 0 := rfl
  have hmax : IntKind.u16.max = 65535 := rfl
  simp only [Lit.wf, Bool.and_eq_true, decide_eq_true_eq] at wa
  obtain ⟨m, rfl⟩ : ∃ m : Nat, a = (m : Int) := ⟨a.toNat, by omega⟩
  by_cases hg : 70 < sg.length ∨ 300 < mt.length
  · exact spo_great A1 A2 c1 c2 sg mt L w hd _ hg
  by_cases hI : IsD sg mt L
  · rcases Nat.eq_zero_or_pos sg.length with h0 | h0
    · exact spo_empty A1 A2 c1 c2 sg mt L w hd _ (by omega) (by omega) hI h0
    · exact spo_yes A1 A2 c1 c2 sg mt L w hd m (by omega) (by omega) (by omega) hI h0
  · exact spo_no A1 A2 c1 c2 sg mt L w hd _ (by omega) (by omega) hI
end Go.Proofs.Ytkanpcdjhaepjaa
