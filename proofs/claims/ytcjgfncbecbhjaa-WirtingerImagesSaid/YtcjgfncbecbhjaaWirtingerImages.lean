/-
  The law WirtingerImages, walked: the call returns true and writes nothing that was there.
-/
import Derived.Test.YtcjgfncbecbhjaaAw22
import Derived.Test.YtcjgfncbecbhjaaHomW
import Derived.Test.YtcjgfncbecbhjaaHImg
import Derived.Test.YtcjgfncbecbhjaaOf
import Derived.Test.YtcjgfncbecbhjaaCmpA
import Derived.Test.YtcjgfncbecbhjaaWVal
import Derived.Test.YtcjgfncbecbhjaaDArg
namespace Go.Proofs.Ytcjgfncbecbhjaa
open Go.RowKit

theorem wim_each (g : Nat) (wss : List (List Int)) (w : World) : EachOk 37 #[] g wss w := by
  intro W A c ls _ _ _ _ _
  show Calls _ _ #[.slice A g c] _ _
  go_enter Try.func37, Try.ntmps37
  go_wp2_with fail
  go_ret
  exact ⟨rfl, Below.refl _ _⟩
theorem enWI : Enters 37 := enters_of Try.func37 (by kernel_rfl) rfl
/-- the two diagrams -/
structure WiS (w0 w : World) (bx : Nat) (A1 A2 B1 B2 : Option Addr) (c1 c2 d1 d2 : Nat) (sg mt q r : List Int) (l : Nat) : Prop where
  db : DBox w w0.heap.size A1 A2 c1 c2 sg mt (l : Int)
  dx : DBox w bx B1 B2 d1 d2 q r (l : Int)
  bel : Below w0.heap.size w0 w
theorem WiS.call {w0 w w' : World} {bx : Nat} {A1 A2 B1 B2 : Option Addr} {c1 c2 d1 d2 : Nat} {sg mt q r : List Int} {l : Nat} (h : WiS w0 w bx A1 A2 B1 B2 c1 c2 d1 d2 sg mt q r l) (hb : Below w.heap.size w w') : WiS w0 w' bx A1 A2 B1 B2 c1 c2 d1 d2 sg mt q r l :=
  ⟨h.db.below hb, h.dx.below hb, h.bel.trans (hb.mono h.bel.size)⟩
theorem blk_set {w : World} {b : Nat} {cs : Array Value} {t : TypeId} {m : Nat × Nat} (h : w.heap[b]? = some (.cells cs t m)) (k : Nat) (v : Value) : (w.setCell ⟨b, k, none⟩ v).heap[b]? = some (.cells (cs.setIfInBounds k v) t m) := by
  have hlt : b < w.heap.size := (Array.getElem?_eq_some_iff.1 h).1
  have h' : w.heap[b] = .cells cs t m := (Array.getElem?_eq_some_iff.1 h).2
  show (w.heap.modify b _)[b]? = _
  rw [Array.getElem?_eq_getElem (by simpa using hlt), Array.getElem_modify_self, h']
  rfl
/-- three stores into a box of the call's own -/
theorem WiS.mk3 {w0 w w4 : World} {bx : Nat} {A1 A2 B1 B2 : Option Addr} {c1 c2 d1 d2 : Nat} {sg mt q r : List Int} {l : Nat} (hd : DBox w w0.heap.size A1 A2 c1 c2 sg mt (l : Int)) (hz : ZBox w bx) (hbx : w0.heap.size < bx) (hbl : Below w0.heap.size w0 w)
    (hrs : RI w0 (· < w0.heap.size) A1 sg) (hrm : RI w0 (· < w0.heap.size) A2 mt) (hblk : w.heap[bx]? = some (.cells #[.slice none 0 0, .slice none 0 0, .int .i64 0] 24 (0, 0)))
    (hb : Below w.heap.size w w4) (hF : Fresh w4 w.heap.size (.slice B1 q.length d1) (.slice B2 r.length d2) q r) :
    WiS w0 (((w4.setCell ⟨bx, 0, none⟩ (.slice B1 q.length d1)).setCell ⟨bx, 1, none⟩ (.slice B2 r.length d2)).setCell ⟨bx, 2, none⟩ (.int .i64 (l : Int))) bx A1 A2 B1 B2 c1 c2 d1 d2 sg mt q r l := by
  have hlt := hz.lt
  have hs := hb.size
  have h4 := (hb.block bx hlt).trans hblk
  have hne : ∀ g, g ≠ bx → (((w4.setCell ⟨bx, 0, none⟩ (.slice B1 q.length d1)).setCell ⟨bx, 1, none⟩ (.slice B2 r.length d2)).setCell ⟨bx, 2, none⟩ (.int .i64 (l : Int))).heap[g]? = w4.heap[g]? := fun g hg => by
    rw [Below.heap_setCell _ _ _ g hg, Below.heap_setCell _ _ _ g hg, Below.heap_setCell _ _ _ g hg]
  have hsz : (((w4.setCell ⟨bx, 0, none⟩ (.slice B1 q.length d1)).setCell ⟨bx, 1, none⟩ (.slice B2 r.length d2)).setCell ⟨bx, 2, none⟩ (.int .i64 (l : Int))).heap.size = w4.heap.size := by simp
  have hbw := hbl.trans (hb.mono hbl.size)
  have hd4 := hd.below hb
  have hbf : Below w0.heap.size w0 (((w4.setCell ⟨bx, 0, none⟩ (.slice B1 q.length d1)).setCell ⟨bx, 1, none⟩ (.slice B2 r.length d2)).setCell ⟨bx, 2, none⟩ (.int .i64 (l : Int))) :=
    ((hbw.setCell (by show w0.heap.size ≤ bx; omega) _).setCell (by show w0.heap.size ≤ bx; omega) _).setCell (by show w0.heap.size ≤ bx; omega) _
  have hl4 : bx < w4.heap.size := by omega
  have hbox : (((w4.setCell ⟨bx, 0, none⟩ (.slice B1 q.length d1)).setCell ⟨bx, 1, none⟩ (.slice B2 r.length d2)).setCell ⟨bx, 2, none⟩ (.int .i64 (l : Int))).heap[bx]? = some (.cells #[.slice B1 q.length d1, .slice B2 r.length d2, .int .i64 (l : Int)] 24 (0, 0)) :=
    blk_set (blk_set (blk_set h4 0 _) 1 _) 2 _
  refine ⟨⟨(World.cell?_of_block (a := ⟨w0.heap.size, 0, none⟩) (hne _ (by show w0.heap.size ≠ bx; omega))).trans hd4.c0, (World.cell?_of_block (a := ⟨w0.heap.size, 1, none⟩) (hne _ (by show w0.heap.size ≠ bx; omega))).trans hd4.c1, (World.cell?_of_block (a := ⟨w0.heap.size, 2, none⟩) (hne _ (by show w0.heap.size ≠ bx; omega))).trans hd4.c2, by rw [hsz]; exact hd4.lt, ?_, ?_⟩,
    ⟨by rw [cell_of_row _ _ _ _ _ _ hbox]; rfl, by rw [cell_of_row _ _ _ _ _ _ hbox]; rfl, by rw [cell_of_row _ _ _ _ _ _ hbox]; rfl, by rw [hsz]; exact hl4, ?_, ?_⟩, hbf⟩
  · exact (hrs.below hbf).imp fun b hb => by rw [hsz]; have := hbl.size; omega
  · exact (hrm.below hbf).imp fun b hb => by rw [hsz]; have := hbl.size; omega
  · obtain ⟨A, c, hv, -, -, hr⟩ := hF.os.reads
    injection hv with e1 _ _
    subst e1
    exact (hr.keep fun b hb => hne b (by omega)).imp fun b hb => by rw [hsz]; exact hb.2
  · obtain ⟨A, c, hv, -, -, hr⟩ := hF.om.reads
    injection hv with e1 _ _
    subst e1
    exact (hr.keep fun b hb => hne b (by omega)).imp fun b hb => by rw [hsz]; exact hb.2
/-- both groups -/
structure Wi2 (w : World) (bd bx ga gb : Nat) (A1 A2 Ac Aw B1 B2 Bc Bw : Option Addr) (c1 c2 cc cw d1 d2 dc dw : Nat) (sg mt q r : List Int) (l m n : Nat) : Prop where
  a : OSt w bd ga A1 A2 Ac Aw c1 c2 cc cw sg mt l m
  b : OSt w bx gb B1 B2 Bc Bw d1 d2 dc dw q r l n
section
variable {w w' : World} {bd bx ga gb : Nat} {A1 A2 Ac Aw B1 B2 Bc Bw : Option Addr} {c1 c2 cc cw d1 d2 dc dw : Nat} {sg mt q r : List Int} {l m n : Nat}
theorem Wi2.call (h : Wi2 w bd bx ga gb A1 A2 Ac Aw B1 B2 Bc Bw c1 c2 cc cw d1 d2 dc dw sg mt q r l m n) (hb : Below w.heap.size w w') : Wi2 w' bd bx ga gb A1 A2 Ac Aw B1 B2 Bc Bw c1 c2 cc cw d1 d2 dc dw sg mt q r l m n := ⟨h.a.below hb, h.b.below hb⟩
theorem Wi2.pack (h : Wi2 w bd bx ga gb A1 A2 Ac Aw B1 B2 Bc Bw c1 c2 cc cw d1 d2 dc dw sg mt q r l m n) : Hid (Wi2 w bd bx ga gb A1 A2 Ac Aw B1 B2 Bc Bw c1 c2 cc cw d1 d2 dc dw sg mt q r l m n) ∧
    w.cell? ⟨ga, 0, none⟩ = some (.int .i64 ((m : Int) + (l : Int))) ∧ w.cell? ⟨ga, 1, none⟩ = some (.slice Ac (m + l) cc) ∧ w.cell? ⟨ga, 2, none⟩ = some (.slice Aw sg.length cw) ∧
    w.cell? ⟨gb, 0, none⟩ = some (.int .i64 ((n : Int) + (l : Int))) ∧ w.cell? ⟨gb, 1, none⟩ = some (.slice Bc (n + l) dc) ∧ w.cell? ⟨gb, 2, none⟩ = some (.slice Bw q.length dw) :=
  ⟨h, h.a.gx.cells.1, h.a.gx.cells.2.1, h.a.gx.cells.2.2, h.b.gx.cells.1, h.b.gx.cells.2.1, h.b.gx.cells.2.2⟩
end
theorem homs_at {sg mt : List Int} {l m : Nat} (hd : IsD sg mt (l : Int)) (hm : arC sg mt = m) (hl : l ≤ 64) (h5 : m + l ≤ 5) (N : Nat) (hN : homN (wrdL sg mt sg.length) (m + l) (6 ^ (m + l)) = N) (W : World) (Ac Aw : Option Addr) (nc cc cw : Nat) (hr : RL W (· < W.heap.size) Aw (wrdL sg mt sg.length)) :
    Calls Try.prog 38 #[.agg #[.int .i64 ((m : Int) + (l : Int)), .slice Ac nc cc, .slice Aw sg.length cw], .func (.func 37) #[] #[]] W fun e w' => e = .returned (.int .i64 (N : Int)) ∧ Below W.heap.size W w' := by
  have hn := hd.1
  have hh := homs_any 37 #[] enWI (m + l) Ac nc cc Aw sg.length cw (wrdL sg mt sg.length) W (· < W.heap.size) hr (fun _ h => h) (wrdL_len _ _ _) (by omega) h5 (fun k hk => by
    rw [wrdL_len] at hk
    have e : (wrdL sg mt sg.length).getD k [] = redL (relL sg mt k) := by simp [wrdL, hk]
    have hw := (group_valid hd hl).2.2.2.2 k (by rw [wrdL_len]; exact hk)
    rw [hm] at hw
    refine ⟨LV_WL (by rw [Int.natCast_add]; exact hw), ?_⟩
    rw [e]
    have h1 := redF_len [] (relL sg mt k)
    have h2 : (relL sg mt k).length = 4 := by unfold relL; dsimp only; split <;> rfl
    unfold redL
    simp only [List.length_nil] at h1
    omega) (wim_each _ _ _)
  rw [hN, Int.natCast_add] at hh
  exact hh
section
variable (A1 A2 : Option Addr) (c1 c2 : Nat) (sg mt : List Int) (L : Int) (w : World) (hd : DArg w A1 A2 sg mt L)
include hd

set_option maxHeartbeats 8000000 in
theorem wim_great (kk : Int) (hf : ¬ fewB sg mt L) :
    Calls Try.prog 9 #[.agg #[.slice A1 sg.length c1, .slice A2 mt.length c2, .int .i64 L], .int .u8 kk] w fun e w' => e = .returned (.bool true) ∧ Below w.heap.size w w' := by
  have HD := Lib.hid (DBox.start (c1 := c1) (c2 := c2) (L := L) (· < w.heap.size) hd.rs hd.rm (fun _ h => h))
  have HL1 := Lib.hid hd.ls
  have HL2 := Lib.hid hd.lm
  have HF := Lib.hid hf
  clear hd hf
  go_enter Try.func9, Try.ntmps9
  go_wp2_with fail
  refine (awake22 _).mono ?_
  rintro e w1 ⟨rfl, hb⟩
  have HD1 := Lib.hid (HD.out.below hb)
  have HB1 := Lib.hid (below_box (o := (.cells #[.slice A1 sg.length c1, .slice A2 mt.length c2, .int .i64 L] 24)) (by simpa using hb))
  clear hb
  have k0 := HD1.out.c0
  have k1 := HD1.out.c1
  have k2 := HD1.out.c2
  go_wp2_with fail
  refine (few_no A1 A2 c1 c2 sg mt L w1 HF.out).mono ?_
  rintro e w2 ⟨rfl, hb⟩
  have HD2 := Lib.hid (HD1.out.below hb)
  have HB2 := Lib.hid (HB1.out.trans (hb.mono HB1.out.size))
  clear hb k0 k1 k2 HD1 HB1
  have k0 := HD2.out.c0
  have k1 := HD2.out.c1
  have k2 := HD2.out.c2
  go_wp2_with fail
  refine (awake22 _).mono ?_
  rintro e w3 ⟨rfl, hb⟩
  have HD3 := Lib.hid (HD2.out.below hb)
  have HB3 := Lib.hid (HB2.out.trans (hb.mono HB2.out.size))
  clear hb k0 k1 k2 HD2 HB2
  have k0 := HD3.out.c0
  have k1 := HD3.out.c1
  have k2 := HD3.out.c2
  go_wp2_with fail
  go_ret
  exact ⟨rfl, HB3.out⟩

set_option maxHeartbeats 8000000 in
theorem wim_no (kk : Int) (hf : fewB sg mt L) (hno : ¬ IsD sg mt L) :
    Calls Try.prog 9 #[.agg #[.slice A1 sg.length c1, .slice A2 mt.length c2, .int .i64 L], .int .u8 kk] w fun e w' => e = .returned (.bool true) ∧ Below w.heap.size w w' := by
  have HD := Lib.hid (DBox.start (c1 := c1) (c2 := c2) (L := L) (· < w.heap.size) hd.rs hd.rm (fun _ h => h))
  have HL1 := Lib.hid hd.ls
  have HL2 := Lib.hid hd.lm
  have HF := Lib.hid hf
  have HR := Lib.hid (decide_eq_false hno)
  clear hd hf hno
  go_enter Try.func9, Try.ntmps9
  go_wp2_with fail
  refine (awake22 _).mono ?_
  rintro e w1 ⟨rfl, hb⟩
  have HD1 := Lib.hid (HD.out.below hb)
  have HB1 := Lib.hid (below_box (o := (.cells #[.slice A1 sg.length c1, .slice A2 mt.length c2, .int .i64 L] 24)) (by simpa using hb))
  clear hb
  have k0 := HD1.out.c0
  have k1 := HD1.out.c1
  have k2 := HD1.out.c2
  go_wp2_with fail
  refine (few_yes A1 A2 c1 c2 sg mt L w1 HF.out).mono ?_
  rintro e w2 ⟨rfl, hb⟩
  have HD2 := Lib.hid (HD1.out.below hb)
  have HB2 := Lib.hid (HB1.out.trans (hb.mono HB1.out.size))
  clear hb k0 k1 k2 HD1 HB1
  have k0 := HD2.out.c0
  have k1 := HD2.out.c1
  have k2 := HD2.out.c2
  go_wp2_with fail
  refine (dvalid_is (· < w2.heap.size) false HD2.out.rs HD2.out.rm (fun _ h => h) HL1.out HL2.out HR.out).mono ?_
  rintro e w3 ⟨rfl, hb⟩
  have HD3 := Lib.hid (HD2.out.below hb)
  have HB3 := Lib.hid (HB2.out.trans (hb.mono HB2.out.size))
  clear hb k0 k1 k2 HD2 HB2
  have k0 := HD3.out.c0
  have k1 := HD3.out.c1
  have k2 := HD3.out.c2
  go_wp2_with fail
  refine (awake22 _).mono ?_
  rintro e w4 ⟨rfl, hb⟩
  have HD4 := Lib.hid (HD3.out.below hb)
  have HB4 := Lib.hid (HB3.out.trans (hb.mono HB3.out.size))
  clear hb k0 k1 k2 HD3 HB3
  have k0 := HD4.out.c0
  have k1 := HD4.out.c1
  have k2 := HD4.out.c2
  go_wp2_with fail
  go_ret
  exact ⟨rfl, HB4.out⟩

set_option maxRecDepth 100000 in
set_option maxHeartbeats 8000000 in
theorem wim_M (kk : Int) (hf : fewB sg mt L) (hi : IsD sg mt L) (hk : 0 ≤ kk ∧ kk ≤ 255) (hk3 : kk % 3 = 0) :
    Calls Try.prog 9 #[.agg #[.slice A1 sg.length c1, .slice A2 mt.length c2, .int .i64 L], .int .u8 kk] w fun e w' => e = .returned (.bool true) ∧ Below w.heap.size w w' := by
  have HD := Lib.hid (DBox.start (c1 := c1) (c2 := c2) (L := L) (· < w.heap.size) hd.rs hd.rm (fun _ h => h))
  have HL1 := Lib.hid hd.ls
  have HL2 := Lib.hid hd.lm
  have HF := Lib.hid hf
  have HI := Lib.hid hi
  have HRS := Lib.hid hd.rs
  have HRM := Lib.hid hd.rm
  have hcn : arC sg mt ≤ 256 := by
    have h1 := cnt_le (headB (arR sg mt)) mt.length
    have h2 := hi.1
    have h3 := hi.2.1
    unfold arC; omega
  obtain ⟨l, rfl⟩ : ∃ l : Nat, L = (l : Int) := ⟨L.toNat, by have := hi.2.2.1; omega⟩
  have hL2 : l ≤ 64 := by have := hi.2.2.2.1; omega
  have hk1 : kk.tmod 3 = 0 := by rw [Int.tmod_eq_emod_of_nonneg hk.1]; exact hk3
  have hk0 : 0 ≤ kk := hk.1
  have hk2 : kk ≤ 255 := hk.2
  clear hd hf hi hk
  go_enter Try.func9, Try.ntmps9
  go_wp2_with fail
  refine (awake22 _).mono ?_
  rintro e w1 ⟨rfl, hb⟩
  have HD1 := Lib.hid (HD.out.below hb)
  have HB1 := Lib.hid (below_box (o := (.cells #[.slice A1 sg.length c1, .slice A2 mt.length c2, .int .i64 (l : Int)] 24)) (by simpa using hb))
  clear hb
  have k0 := HD1.out.c0
  have k1 := HD1.out.c1
  have k2 := HD1.out.c2
  go_wp2_with fail
  refine (few_yes A1 A2 c1 c2 sg mt (l : Int) w1 HF.out).mono ?_
  rintro e w2 ⟨rfl, hb⟩
  have HD2 := Lib.hid (HD1.out.below hb)
  have HB2 := Lib.hid (HB1.out.trans (hb.mono HB1.out.size))
  clear hb k0 k1 k2 HD1 HB1
  have k0 := HD2.out.c0
  have k1 := HD2.out.c1
  have k2 := HD2.out.c2
  go_wp2_with fail
  refine (dvalid_is (· < w2.heap.size) true HD2.out.rs HD2.out.rm (fun _ h => h) HL1.out HL2.out (decide_eq_true HI.out)).mono ?_
  rintro e w3 ⟨rfl, hb⟩
  have HD3 := Lib.hid (HD2.out.below hb)
  have HB3 := Lib.hid (HB2.out.trans (hb.mono HB2.out.size))
  have hlw := HD3.out.lt
  clear hb k0 k1 k2 HD2 HB2
  have k0 := HD3.out.c0
  have k1 := HD3.out.c1
  have k2 := HD3.out.c2
  go_wp2_with fail
  have hbx := (Below.refl w3.heap.size w3).alloc (Nat.le_refl _) (.cells #[.slice none 0 0, .slice none 0 0, .int .i64 0] 24)
  have HDX := Lib.hid (HD3.out.below hbx)
  have HBX := Lib.hid (HB3.out.trans (hbx.mono HB3.out.size))
  have HKX := Lib.hid (heap_alloc_new w3 (.cells #[.slice none 0 0, .slice none 0 0, .int .i64 0] 24))
  have HLX : Hid (w.heap.size < w3.heap.size) := HD3.out.lt
  generalize hWX : w3.alloc (.cells #[.slice none 0 0, .slice none 0 0, .int .i64 0] 24) = wx at *
  have hszx : wx.heap.size = w3.heap.size + 1 := by rw [← hWX]; simp
  have HZX := Lib.hid (ZBox.new HKX.out (by rw [hszx]; omega))
  clear hbx hWX hszx k0 k1 k2 HD3 HB3
  have k0 := HDX.out.c0
  have k1 := HDX.out.c1
  have k2 := HDX.out.c2
  go_wp2_with fail
  refine (mirror_ok A1 A2 c1 c2 sg mt (l : Int) wx (· < wx.heap.size) HDX.out.rs HDX.out.rm (fun _ h => h) HI.out).mono ?_
  rintro e w4 ⟨v1, v2, q, r, rfl, him, hF, hb⟩
  obtain ⟨B1, d1, rfl, -, -, -⟩ := hF.os.shape
  obtain ⟨B2, d2, rfl, -, -, -⟩ := hF.om.shape
  have HIM := Lib.hid him
  have HX := Lib.hid (mv_isD HI.out (moved_M HI.out him))
  have HW := Lib.hid (WiS.mk3 (l := l) HDX.out HZX.out HLX.out HBX.out HRS.out HRM.out HKX.out hb hF)
  have hz4 := HZX.out.below hb
  have z0 := hz4.z0
  have z1 := hz4.z1
  have z2 := hz4.z2
  have f0 := hz4.f0
  have f1 := hz4.f1
  have f2 := hz4.f2
  have hlt4 := hz4.lt
  clear hz4
  obtain ⟨bx, hbxe⟩ : ∃ b, w3.heap.size = b := ⟨_, rfl⟩
  rw [hbxe] at HW z0 z1 z2 f0 f1 f2 hlt4 ⊢
  have hd4 := HDX.out.below hb
  have k0 := hd4.c0
  have k1 := hd4.c1
  have k2 := hd4.c2
  have hne : ¬ w.heap.size = bx := by have := HLX.out; omega
  have hne' : ¬ bx = w.heap.size := by have := HLX.out; omega
  clear him hF hb HKX HDX HBX HLX HZX hbxe hd4
  go_wp2_with fail
  generalize (((w4.setCell ⟨bx, 0, none⟩ (.slice B1 q.length d1)).setCell ⟨bx, 1, none⟩ (.slice B2 r.length d2)).setCell ⟨bx, 2, none⟩ (.int .i64 (l : Int))) = w5 at HW ⊢
  clear z0 z1 z2 f0 f1 f2 hlt4 k0 k1 k2 hne hne'
  have hcx : arC q r ≤ 256 := by
    have h1 := cnt_le (headB (arR q r)) r.length
    have h2 := HX.out.1
    have h3 := HX.out.2.1
    unfold arC; omega
  have hNN := homs_M HI.out HIM.out l
  obtain ⟨m, hm⟩ : ∃ m, arC sg mt = m := ⟨_, rfl⟩
  obtain ⟨n, hn⟩ : ∃ n, arC q r = n := ⟨_, rfl⟩
  rw [hm] at hcn
  rw [hn] at hcx
  rw [hm, hn] at hNN
  obtain ⟨N, hN⟩ : ∃ N, homN (wrdL sg mt sg.length) (m + l) (6 ^ (m + l)) = N := ⟨_, rfl⟩
  rw [hN] at hNN
  have HN1 := Lib.hid hN
  have HN2 := Lib.hid hNN.symm
  have HM := Lib.hid hm
  have HNX := Lib.hid hn
  clear hNN hN hm hn
  have k0 := HW.out.db.c0
  have k1 := HW.out.db.c1
  have k2 := HW.out.db.c2
  have j0 := HW.out.dx.c0
  have j1 := HW.out.dx.c1
  have j2 := HW.out.dx.c2
  refine (of_ok A1 A2 c1 c2 sg mt (l : Int) w5 (· < w5.heap.size) HW.out.db.rs HW.out.db.rm (fun _ h => h) HI.out).mono ?_
  rintro e w6 ⟨v3, v4, rfl, ho, hr, hb⟩
  rw [show ((l : Int)).toNat = l from rfl] at ho
  rw [HM.out]
  have HW6 := Lib.hid (HW.out.call hb)
  obtain ⟨Ac, cc, hv3, -, -, hrc⟩ := ho.reads
  obtain ⟨Aw, cw, hv4, hrw⟩ := hr.reads
  rw [cmp_len, HM.out] at hv3
  rw [wrdL_len] at hv4
  subst hv3 hv4
  have HX6 := Lib.hid ((Below.refl w6.heap.size w6).alloc (Nat.le_refl _) (.cells #[.int .i64 ((m : Int) + (l : Int)), .slice Ac (m + l) cc, .slice Aw sg.length cw] 35))
  have HS6 : Hid (OSt (w6.alloc (.cells #[.int .i64 ((m : Int) + (l : Int)), .slice Ac (m + l) cc, .slice Aw sg.length cw] 35)) w.heap.size w6.heap.size A1 A2 Ac Aw c1 c2 cc cw sg mt l m) :=
    ⟨HW6.out.db.below HX6.out, heap_alloc_new _ _, (hrc.imp (T := (· < w6.heap.size)) fun b hb => hb.2).below HX6.out |>.imp fun b hb => by have := HX6.out.size; omega, (hrw.imp (T := (· < w6.heap.size)) fun b hb => hb.2).below HX6.out |>.imp fun b hb => by have := HX6.out.size; omega⟩
  have HW7 := Lib.hid (HW6.out.call HX6.out)
  have j0 := HW6.out.dx.c0
  have j1 := HW6.out.dx.c1
  have j2 := HW6.out.dx.c2
  have hlx6 := HW6.out.dx.lt
  clear hb ho hr hrc hrw k0 k1 k2 HW HX6
  go_wp2_with fail
  obtain ⟨ga, hga⟩ : ∃ g, w6.heap.size = g := ⟨_, rfl⟩
  rw [hga] at HS6 ⊢
  generalize (w6.alloc (.cells #[.int .i64 ((m : Int) + (l : Int)), .slice Ac (m + l) cc, .slice Aw sg.length cw] 35)) = w7 at HS6 HW7 ⊢
  clear hga j0 j1 j2 HW6
  have j0 := HW7.out.dx.c0
  have j1 := HW7.out.dx.c1
  have j2 := HW7.out.dx.c2
  refine (of_ok B1 B2 d1 d2 q r (l : Int) w7 (· < w7.heap.size) HW7.out.dx.rs HW7.out.dx.rm (fun _ h => h) HX.out).mono ?_
  rintro e w8 ⟨v3, v4, rfl, ho, hr, hb⟩
  rw [show ((l : Int)).toNat = l from rfl] at ho
  rw [HNX.out]
  have HW8 := Lib.hid (HW7.out.call hb)
  have HS8 := Lib.hid (HS6.out.below hb)
  obtain ⟨Bc, dc, hv3, -, -, hrc⟩ := ho.reads
  obtain ⟨Bw, dw, hv4, hrw⟩ := hr.reads
  rw [cmp_len, HNX.out] at hv3
  rw [wrdL_len] at hv4
  subst hv3 hv4
  have HX8 := Lib.hid ((Below.refl w8.heap.size w8).alloc (Nat.le_refl _) (.cells #[.int .i64 ((n : Int) + (l : Int)), .slice Bc (n + l) dc, .slice Bw q.length dw] 35))
  have HS9 : Hid (Wi2 (w8.alloc (.cells #[.int .i64 ((n : Int) + (l : Int)), .slice Bc (n + l) dc, .slice Bw q.length dw] 35)) w.heap.size bx ga w8.heap.size A1 A2 Ac Aw B1 B2 Bc Bw c1 c2 cc cw d1 d2 dc dw sg mt q r l m n) :=
    ⟨HS8.out.below HX8.out, ⟨HW8.out.dx.below HX8.out, heap_alloc_new _ _, (hrc.imp (T := (· < w8.heap.size)) fun b hb => hb.2).below HX8.out |>.imp fun b hb => by have := HX8.out.size; omega, (hrw.imp (T := (· < w8.heap.size)) fun b hb => hb.2).below HX8.out |>.imp fun b hb => by have := HX8.out.size; omega⟩⟩
  have HB9 := Lib.hid (HW8.out.call HX8.out).bel
  obtain ⟨-, g0, g1, g2, e0, e1, e2⟩ := HS9.out.pack
  clear hb ho hr hrc hrw j0 j1 j2 HW7 HX8 HS6 HS8
  by_cases hbig : (5 : Int) < (m : Int) + (l : Int)
  · go_wp2_with fail
    go_ret
    exact ⟨rfl, HB9.out⟩
  by_cases hbig2 : (5 : Int) < (n : Int) + (l : Int)
  · go_wp2_with fail
    go_ret
    exact ⟨rfl, HB9.out⟩
  have HHA : Hid (∀ W : World, Hid (Wi2 W w.heap.size bx ga w8.heap.size A1 A2 Ac Aw B1 B2 Bc Bw c1 c2 cc cw d1 d2 dc dw sg mt q r l m n) → Calls Try.prog 38 #[.agg #[.int .i64 ((m : Int) + (l : Int)), .slice Ac (m + l) cc, .slice Aw sg.length cw], .func (.func 37) #[] #[]] W fun e w' => e = .returned (.int .i64 (N : Int)) ∧ Below W.heap.size W w') :=
    Lib.hid fun W h => homs_at HI.out HM.out hL2 (by omega) N HN1.out W Ac Aw (m + l) cc cw h.out.a.wd
  have HHB : Hid (∀ W : World, Hid (Wi2 W w.heap.size bx ga w8.heap.size A1 A2 Ac Aw B1 B2 Bc Bw c1 c2 cc cw d1 d2 dc dw sg mt q r l m n) → Calls Try.prog 38 #[.agg #[.int .i64 ((n : Int) + (l : Int)), .slice Bc (n + l) dc, .slice Bw q.length dw], .func (.func 37) #[] #[]] W fun e w' => e = .returned (.int .i64 (N : Int)) ∧ Below W.heap.size W w') :=
    Lib.hid fun W h => homs_at HX.out HNX.out hL2 (by omega) N HN2.out W Bc Bw (n + l) dc dw h.out.b.wd
  go_wp2_with fail
  generalize (w8.alloc (.cells #[.int .i64 ((n : Int) + (l : Int)), .slice Bc (n + l) dc, .slice Bw q.length dw] 35)) = w9 at HS9 HB9 g0 g1 g2 e0 e1 e2 ⊢
  have HSd := Lib.hid (HS9.out.call (Below.refl _ _).drew)
  clear g0 g1 g2 e0 e1 e2 HW8 hbig hbig2 HS9
  go_region_held3 (fun w' => Hid (Wi2 w' w.heap.size bx ga w8.heap.size A1 A2 Ac Aw B1 B2 Bc Bw c1 c2 cc cw d1 d2 dc dw sg mt q r l m n) ∧ w'.cell? ⟨ga, 0, none⟩ = some (.int .i64 ((m : Int) + (l : Int))) ∧ w'.cell? ⟨ga, 1, none⟩ = some (.slice Ac (m + l) cc) ∧ w'.cell? ⟨ga, 2, none⟩ = some (.slice Aw sg.length cw) ∧
      w'.cell? ⟨w8.heap.size, 0, none⟩ = some (.int .i64 ((n : Int) + (l : Int))) ∧ w'.cell? ⟨w8.heap.size, 1, none⟩ = some (.slice Bc (n + l) dc) ∧ w'.cell? ⟨w8.heap.size, 2, none⟩ = some (.slice Bw q.length dw))
    (first | exact HSd.out.pack | exact hSa.out.pack | exact hSb.out.pack)
    (first
      | (go_at_call 38; with_reducible (show Calls _ _ #[Value.agg #[_, _, Value.slice Aw sg.length cw], _] _ _); (first | (refine (HHA.out w9.drew HSd).mono ?_; rintro e9 wa ⟨rfl, hba⟩; have hSa := Lib.hid (HSd.out.call hba)) | (refine (HHA.out wb hSb).mono ?_; rintro e9 wa ⟨rfl, hba⟩; have hSa := Lib.hid (hSb.out.call hba))))
      | (go_at_call 38; with_reducible (show Calls _ _ #[Value.agg #[_, _, Value.slice Bw q.length dw], _] _ _); (first | (refine (HHB.out w9.drew HSd).mono ?_; rintro e9 wb ⟨rfl, hbb⟩; have hSb := Lib.hid (HSd.out.call hbb)) | (refine (HHB.out wa hSa).mono ?_; rintro e9 wb ⟨rfl, hbb⟩; have hSb := Lib.hid (hSa.out.call hbb)))))
  all_goals
    first
      | have HBF := Lib.hid ((HB9.out.drew.trans (hba.mono HB9.out.drew.size)).trans (hbb.mono (Nat.le_trans HB9.out.drew.size hba.size)))
      | have HBF := Lib.hid ((HB9.out.drew.trans (hbb.mono HB9.out.drew.size)).trans (hba.mono (Nat.le_trans HB9.out.drew.size hbb.size)))
  all_goals clear hba hbb hSa hSb
  all_goals go_wp2_with fail
  all_goals go_ret
  all_goals exact ⟨rfl, HBF.out⟩

set_option maxRecDepth 100000 in
set_option maxHeartbeats 8000000 in
theorem wim_F (kk : Int) (hf : fewB sg mt L) (hi : IsD sg mt L) (hk : 0 ≤ kk ∧ kk ≤ 255) (hk3 : kk % 3 = 1) :
    Calls Try.prog 9 #[.agg #[.slice A1 sg.length c1, .slice A2 mt.length c2, .int .i64 L], .int .u8 kk] w fun e w' => e = .returned (.bool true) ∧ Below w.heap.size w w' := by
  have HD := Lib.hid (DBox.start (c1 := c1) (c2 := c2) (L := L) (· < w.heap.size) hd.rs hd.rm (fun _ h => h))
  have HL1 := Lib.hid hd.ls
  have HL2 := Lib.hid hd.lm
  have HF := Lib.hid hf
  have HI := Lib.hid hi
  have HRS := Lib.hid hd.rs
  have HRM := Lib.hid hd.rm
  have hcn : arC sg mt ≤ 256 := by
    have h1 := cnt_le (headB (arR sg mt)) mt.length
    have h2 := hi.1
    have h3 := hi.2.1
    unfold arC; omega
  obtain ⟨l, rfl⟩ : ∃ l : Nat, L = (l : Int) := ⟨L.toNat, by have := hi.2.2.1; omega⟩
  have hL2 : l ≤ 64 := by have := hi.2.2.2.1; omega
  have hk1 : kk.tmod 3 = 1 := by rw [Int.tmod_eq_emod_of_nonneg hk.1]; exact hk3
  have hk0 : 0 ≤ kk := hk.1
  have hk2 : kk ≤ 255 := hk.2
  clear hd hf hi hk
  go_enter Try.func9, Try.ntmps9
  go_wp2_with fail
  refine (awake22 _).mono ?_
  rintro e w1 ⟨rfl, hb⟩
  have HD1 := Lib.hid (HD.out.below hb)
  have HB1 := Lib.hid (below_box (o := (.cells #[.slice A1 sg.length c1, .slice A2 mt.length c2, .int .i64 (l : Int)] 24)) (by simpa using hb))
  clear hb
  have k0 := HD1.out.c0
  have k1 := HD1.out.c1
  have k2 := HD1.out.c2
  go_wp2_with fail
  refine (few_yes A1 A2 c1 c2 sg mt (l : Int) w1 HF.out).mono ?_
  rintro e w2 ⟨rfl, hb⟩
  have HD2 := Lib.hid (HD1.out.below hb)
  have HB2 := Lib.hid (HB1.out.trans (hb.mono HB1.out.size))
  clear hb k0 k1 k2 HD1 HB1
  have k0 := HD2.out.c0
  have k1 := HD2.out.c1
  have k2 := HD2.out.c2
  go_wp2_with fail
  refine (dvalid_is (· < w2.heap.size) true HD2.out.rs HD2.out.rm (fun _ h => h) HL1.out HL2.out (decide_eq_true HI.out)).mono ?_
  rintro e w3 ⟨rfl, hb⟩
  have HD3 := Lib.hid (HD2.out.below hb)
  have HB3 := Lib.hid (HB2.out.trans (hb.mono HB2.out.size))
  have hlw := HD3.out.lt
  clear hb k0 k1 k2 HD2 HB2
  have k0 := HD3.out.c0
  have k1 := HD3.out.c1
  have k2 := HD3.out.c2
  go_wp2_with fail
  have hbx := (Below.refl w3.heap.size w3).alloc (Nat.le_refl _) (.cells #[.slice none 0 0, .slice none 0 0, .int .i64 0] 24)
  have HDX := Lib.hid (HD3.out.below hbx)
  have HBX := Lib.hid (HB3.out.trans (hbx.mono HB3.out.size))
  have HKX := Lib.hid (heap_alloc_new w3 (.cells #[.slice none 0 0, .slice none 0 0, .int .i64 0] 24))
  have HLX : Hid (w.heap.size < w3.heap.size) := HD3.out.lt
  generalize hWX : w3.alloc (.cells #[.slice none 0 0, .slice none 0 0, .int .i64 0] 24) = wx at *
  have hszx : wx.heap.size = w3.heap.size + 1 := by rw [← hWX]; simp
  have HZX := Lib.hid (ZBox.new HKX.out (by rw [hszx]; omega))
  clear hbx hWX hszx k0 k1 k2 HD3 HB3
  have k0 := HDX.out.c0
  have k1 := HDX.out.c1
  have k2 := HDX.out.c2
  go_wp2_with fail
  refine (reflect_ok A1 A2 c1 c2 sg mt (l : Int) wx (· < wx.heap.size) HDX.out.rs HDX.out.rm (fun _ h => h) HI.out).mono ?_
  rintro e w4 ⟨v1, v2, q, r, rfl, him, hF, hb⟩
  obtain ⟨B1, d1, rfl, -, -, -⟩ := hF.os.shape
  obtain ⟨B2, d2, rfl, -, -, -⟩ := hF.om.shape
  have HIM := Lib.hid him
  have HX := Lib.hid (mv_isD HI.out (moved_F HI.out him))
  have HW := Lib.hid (WiS.mk3 (l := l) HDX.out HZX.out HLX.out HBX.out HRS.out HRM.out HKX.out hb hF)
  have hz4 := HZX.out.below hb
  have z0 := hz4.z0
  have z1 := hz4.z1
  have z2 := hz4.z2
  have f0 := hz4.f0
  have f1 := hz4.f1
  have f2 := hz4.f2
  have hlt4 := hz4.lt
  clear hz4
  obtain ⟨bx, hbxe⟩ : ∃ b, w3.heap.size = b := ⟨_, rfl⟩
  rw [hbxe] at HW z0 z1 z2 f0 f1 f2 hlt4 ⊢
  have hd4 := HDX.out.below hb
  have k0 := hd4.c0
  have k1 := hd4.c1
  have k2 := hd4.c2
  have hne : ¬ w.heap.size = bx := by have := HLX.out; omega
  have hne' : ¬ bx = w.heap.size := by have := HLX.out; omega
  clear him hF hb HKX HDX HBX HLX HZX hbxe hd4
  go_wp2_with fail
  generalize (((w4.setCell ⟨bx, 0, none⟩ (.slice B1 q.length d1)).setCell ⟨bx, 1, none⟩ (.slice B2 r.length d2)).setCell ⟨bx, 2, none⟩ (.int .i64 (l : Int))) = w5 at HW ⊢
  clear z0 z1 z2 f0 f1 f2 hlt4 k0 k1 k2 hne hne'
  have hcx : arC q r ≤ 256 := by
    have h1 := cnt_le (headB (arR q r)) r.length
    have h2 := HX.out.1
    have h3 := HX.out.2.1
    unfold arC; omega
  have hNN := homs_F HI.out HIM.out l
  obtain ⟨m, hm⟩ : ∃ m, arC sg mt = m := ⟨_, rfl⟩
  obtain ⟨n, hn⟩ : ∃ n, arC q r = n := ⟨_, rfl⟩
  rw [hm] at hcn
  rw [hn] at hcx
  rw [hm, hn] at hNN
  obtain ⟨N, hN⟩ : ∃ N, homN (wrdL sg mt sg.length) (m + l) (6 ^ (m + l)) = N := ⟨_, rfl⟩
  rw [hN] at hNN
  have HN1 := Lib.hid hN
  have HN2 := Lib.hid hNN.symm
  have HM := Lib.hid hm
  have HNX := Lib.hid hn
  clear hNN hN hm hn
  have k0 := HW.out.db.c0
  have k1 := HW.out.db.c1
  have k2 := HW.out.db.c2
  have j0 := HW.out.dx.c0
  have j1 := HW.out.dx.c1
  have j2 := HW.out.dx.c2
  refine (of_ok A1 A2 c1 c2 sg mt (l : Int) w5 (· < w5.heap.size) HW.out.db.rs HW.out.db.rm (fun _ h => h) HI.out).mono ?_
  rintro e w6 ⟨v3, v4, rfl, ho, hr, hb⟩
  rw [show ((l : Int)).toNat = l from rfl] at ho
  rw [HM.out]
  have HW6 := Lib.hid (HW.out.call hb)
  obtain ⟨Ac, cc, hv3, -, -, hrc⟩ := ho.reads
  obtain ⟨Aw, cw, hv4, hrw⟩ := hr.reads
  rw [cmp_len, HM.out] at hv3
  rw [wrdL_len] at hv4
  subst hv3 hv4
  have HX6 := Lib.hid ((Below.refl w6.heap.size w6).alloc (Nat.le_refl _) (.cells #[.int .i64 ((m : Int) + (l : Int)), .slice Ac (m + l) cc, .slice Aw sg.length cw] 35))
  have HS6 : Hid (OSt (w6.alloc (.cells #[.int .i64 ((m : Int) + (l : Int)), .slice Ac (m + l) cc, .slice Aw sg.length cw] 35)) w.heap.size w6.heap.size A1 A2 Ac Aw c1 c2 cc cw sg mt l m) :=
    ⟨HW6.out.db.below HX6.out, heap_alloc_new _ _, (hrc.imp (T := (· < w6.heap.size)) fun b hb => hb.2).below HX6.out |>.imp fun b hb => by have := HX6.out.size; omega, (hrw.imp (T := (· < w6.heap.size)) fun b hb => hb.2).below HX6.out |>.imp fun b hb => by have := HX6.out.size; omega⟩
  have HW7 := Lib.hid (HW6.out.call HX6.out)
  have j0 := HW6.out.dx.c0
  have j1 := HW6.out.dx.c1
  have j2 := HW6.out.dx.c2
  have hlx6 := HW6.out.dx.lt
  clear hb ho hr hrc hrw k0 k1 k2 HW HX6
  go_wp2_with fail
  obtain ⟨ga, hga⟩ : ∃ g, w6.heap.size = g := ⟨_, rfl⟩
  rw [hga] at HS6 ⊢
  generalize (w6.alloc (.cells #[.int .i64 ((m : Int) + (l : Int)), .slice Ac (m + l) cc, .slice Aw sg.length cw] 35)) = w7 at HS6 HW7 ⊢
  clear hga j0 j1 j2 HW6
  have j0 := HW7.out.dx.c0
  have j1 := HW7.out.dx.c1
  have j2 := HW7.out.dx.c2
  refine (of_ok B1 B2 d1 d2 q r (l : Int) w7 (· < w7.heap.size) HW7.out.dx.rs HW7.out.dx.rm (fun _ h => h) HX.out).mono ?_
  rintro e w8 ⟨v3, v4, rfl, ho, hr, hb⟩
  rw [show ((l : Int)).toNat = l from rfl] at ho
  rw [HNX.out]
  have HW8 := Lib.hid (HW7.out.call hb)
  have HS8 := Lib.hid (HS6.out.below hb)
  obtain ⟨Bc, dc, hv3, -, -, hrc⟩ := ho.reads
  obtain ⟨Bw, dw, hv4, hrw⟩ := hr.reads
  rw [cmp_len, HNX.out] at hv3
  rw [wrdL_len] at hv4
  subst hv3 hv4
  have HX8 := Lib.hid ((Below.refl w8.heap.size w8).alloc (Nat.le_refl _) (.cells #[.int .i64 ((n : Int) + (l : Int)), .slice Bc (n + l) dc, .slice Bw q.length dw] 35))
  have HS9 : Hid (Wi2 (w8.alloc (.cells #[.int .i64 ((n : Int) + (l : Int)), .slice Bc (n + l) dc, .slice Bw q.length dw] 35)) w.heap.size bx ga w8.heap.size A1 A2 Ac Aw B1 B2 Bc Bw c1 c2 cc cw d1 d2 dc dw sg mt q r l m n) :=
    ⟨HS8.out.below HX8.out, ⟨HW8.out.dx.below HX8.out, heap_alloc_new _ _, (hrc.imp (T := (· < w8.heap.size)) fun b hb => hb.2).below HX8.out |>.imp fun b hb => by have := HX8.out.size; omega, (hrw.imp (T := (· < w8.heap.size)) fun b hb => hb.2).below HX8.out |>.imp fun b hb => by have := HX8.out.size; omega⟩⟩
  have HB9 := Lib.hid (HW8.out.call HX8.out).bel
  obtain ⟨-, g0, g1, g2, e0, e1, e2⟩ := HS9.out.pack
  clear hb ho hr hrc hrw j0 j1 j2 HW7 HX8 HS6 HS8
  by_cases hbig : (5 : Int) < (m : Int) + (l : Int)
  · go_wp2_with fail
    go_ret
    exact ⟨rfl, HB9.out⟩
  by_cases hbig2 : (5 : Int) < (n : Int) + (l : Int)
  · go_wp2_with fail
    go_ret
    exact ⟨rfl, HB9.out⟩
  have HHA : Hid (∀ W : World, Hid (Wi2 W w.heap.size bx ga w8.heap.size A1 A2 Ac Aw B1 B2 Bc Bw c1 c2 cc cw d1 d2 dc dw sg mt q r l m n) → Calls Try.prog 38 #[.agg #[.int .i64 ((m : Int) + (l : Int)), .slice Ac (m + l) cc, .slice Aw sg.length cw], .func (.func 37) #[] #[]] W fun e w' => e = .returned (.int .i64 (N : Int)) ∧ Below W.heap.size W w') :=
    Lib.hid fun W h => homs_at HI.out HM.out hL2 (by omega) N HN1.out W Ac Aw (m + l) cc cw h.out.a.wd
  have HHB : Hid (∀ W : World, Hid (Wi2 W w.heap.size bx ga w8.heap.size A1 A2 Ac Aw B1 B2 Bc Bw c1 c2 cc cw d1 d2 dc dw sg mt q r l m n) → Calls Try.prog 38 #[.agg #[.int .i64 ((n : Int) + (l : Int)), .slice Bc (n + l) dc, .slice Bw q.length dw], .func (.func 37) #[] #[]] W fun e w' => e = .returned (.int .i64 (N : Int)) ∧ Below W.heap.size W w') :=
    Lib.hid fun W h => homs_at HX.out HNX.out hL2 (by omega) N HN2.out W Bc Bw (n + l) dc dw h.out.b.wd
  go_wp2_with fail
  generalize (w8.alloc (.cells #[.int .i64 ((n : Int) + (l : Int)), .slice Bc (n + l) dc, .slice Bw q.length dw] 35)) = w9 at HS9 HB9 g0 g1 g2 e0 e1 e2 ⊢
  have HSd := Lib.hid (HS9.out.call (Below.refl _ _).drew)
  clear g0 g1 g2 e0 e1 e2 HW8 hbig hbig2 HS9
  go_region_held3 (fun w' => Hid (Wi2 w' w.heap.size bx ga w8.heap.size A1 A2 Ac Aw B1 B2 Bc Bw c1 c2 cc cw d1 d2 dc dw sg mt q r l m n) ∧ w'.cell? ⟨ga, 0, none⟩ = some (.int .i64 ((m : Int) + (l : Int))) ∧ w'.cell? ⟨ga, 1, none⟩ = some (.slice Ac (m + l) cc) ∧ w'.cell? ⟨ga, 2, none⟩ = some (.slice Aw sg.length cw) ∧
      w'.cell? ⟨w8.heap.size, 0, none⟩ = some (.int .i64 ((n : Int) + (l : Int))) ∧ w'.cell? ⟨w8.heap.size, 1, none⟩ = some (.slice Bc (n + l) dc) ∧ w'.cell? ⟨w8.heap.size, 2, none⟩ = some (.slice Bw q.length dw))
    (first | exact HSd.out.pack | exact hSa.out.pack | exact hSb.out.pack)
    (first
      | (go_at_call 38; with_reducible (show Calls _ _ #[Value.agg #[_, _, Value.slice Aw sg.length cw], _] _ _); (first | (refine (HHA.out w9.drew HSd).mono ?_; rintro e9 wa ⟨rfl, hba⟩; have hSa := Lib.hid (HSd.out.call hba)) | (refine (HHA.out wb hSb).mono ?_; rintro e9 wa ⟨rfl, hba⟩; have hSa := Lib.hid (hSb.out.call hba))))
      | (go_at_call 38; with_reducible (show Calls _ _ #[Value.agg #[_, _, Value.slice Bw q.length dw], _] _ _); (first | (refine (HHB.out w9.drew HSd).mono ?_; rintro e9 wb ⟨rfl, hbb⟩; have hSb := Lib.hid (HSd.out.call hbb)) | (refine (HHB.out wa hSa).mono ?_; rintro e9 wb ⟨rfl, hbb⟩; have hSb := Lib.hid (hSa.out.call hbb)))))
  all_goals
    first
      | have HBF := Lib.hid ((HB9.out.drew.trans (hba.mono HB9.out.drew.size)).trans (hbb.mono (Nat.le_trans HB9.out.drew.size hba.size)))
      | have HBF := Lib.hid ((HB9.out.drew.trans (hbb.mono HB9.out.drew.size)).trans (hba.mono (Nat.le_trans HB9.out.drew.size hbb.size)))
  all_goals clear hba hbb hSa hSb
  all_goals go_wp2_with fail
  all_goals go_ret
  all_goals exact ⟨rfl, HBF.out⟩

set_option maxRecDepth 100000 in
set_option maxHeartbeats 8000000 in
theorem wim_R (kk : Int) (hf : fewB sg mt L) (hi : IsD sg mt L) (hk : 0 ≤ kk ∧ kk ≤ 255) (hk3 : kk % 3 = 2) :
    Calls Try.prog 9 #[.agg #[.slice A1 sg.length c1, .slice A2 mt.length c2, .int .i64 L], .int .u8 kk] w fun e w' => e = .returned (.bool true) ∧ Below w.heap.size w w' := by
  have HD := Lib.hid (DBox.start (c1 := c1) (c2 := c2) (L := L) (· < w.heap.size) hd.rs hd.rm (fun _ h => h))
  have HL1 := Lib.hid hd.ls
  have HL2 := Lib.hid hd.lm
  have HF := Lib.hid hf
  have HI := Lib.hid hi
  have HRS := Lib.hid hd.rs
  have HRM := Lib.hid hd.rm
  have hcn : arC sg mt ≤ 256 := by
    have h1 := cnt_le (headB (arR sg mt)) mt.length
    have h2 := hi.1
    have h3 := hi.2.1
    unfold arC; omega
  obtain ⟨l, rfl⟩ : ∃ l : Nat, L = (l : Int) := ⟨L.toNat, by have := hi.2.2.1; omega⟩
  have hL2 : l ≤ 64 := by have := hi.2.2.2.1; omega
  have hk1 : kk.tmod 3 = 2 := by rw [Int.tmod_eq_emod_of_nonneg hk.1]; exact hk3
  have hk0 : 0 ≤ kk := hk.1
  have hk2 : kk ≤ 255 := hk.2
  clear hd hf hi hk
  go_enter Try.func9, Try.ntmps9
  go_wp2_with fail
  refine (awake22 _).mono ?_
  rintro e w1 ⟨rfl, hb⟩
  have HD1 := Lib.hid (HD.out.below hb)
  have HB1 := Lib.hid (below_box (o := (.cells #[.slice A1 sg.length c1, .slice A2 mt.length c2, .int .i64 (l : Int)] 24)) (by simpa using hb))
  clear hb
  have k0 := HD1.out.c0
  have k1 := HD1.out.c1
  have k2 := HD1.out.c2
  go_wp2_with fail
  refine (few_yes A1 A2 c1 c2 sg mt (l : Int) w1 HF.out).mono ?_
  rintro e w2 ⟨rfl, hb⟩
  have HD2 := Lib.hid (HD1.out.below hb)
  have HB2 := Lib.hid (HB1.out.trans (hb.mono HB1.out.size))
  clear hb k0 k1 k2 HD1 HB1
  have k0 := HD2.out.c0
  have k1 := HD2.out.c1
  have k2 := HD2.out.c2
  go_wp2_with fail
  refine (dvalid_is (· < w2.heap.size) true HD2.out.rs HD2.out.rm (fun _ h => h) HL1.out HL2.out (decide_eq_true HI.out)).mono ?_
  rintro e w3 ⟨rfl, hb⟩
  have HD3 := Lib.hid (HD2.out.below hb)
  have HB3 := Lib.hid (HB2.out.trans (hb.mono HB2.out.size))
  have hlw := HD3.out.lt
  clear hb k0 k1 k2 HD2 HB2
  have k0 := HD3.out.c0
  have k1 := HD3.out.c1
  have k2 := HD3.out.c2
  go_wp2_with fail
  have hbx := (Below.refl w3.heap.size w3).alloc (Nat.le_refl _) (.cells #[.slice none 0 0, .slice none 0 0, .int .i64 0] 24)
  have HDX := Lib.hid (HD3.out.below hbx)
  have HBX := Lib.hid (HB3.out.trans (hbx.mono HB3.out.size))
  have HKX := Lib.hid (heap_alloc_new w3 (.cells #[.slice none 0 0, .slice none 0 0, .int .i64 0] 24))
  have HLX : Hid (w.heap.size < w3.heap.size) := HD3.out.lt
  generalize hWX : w3.alloc (.cells #[.slice none 0 0, .slice none 0 0, .int .i64 0] 24) = wx at *
  have hszx : wx.heap.size = w3.heap.size + 1 := by rw [← hWX]; simp
  have HZX := Lib.hid (ZBox.new HKX.out (by rw [hszx]; omega))
  clear hbx hWX hszx k0 k1 k2 HD3 HB3
  have k0 := HDX.out.c0
  have k1 := HDX.out.c1
  have k2 := HDX.out.c2
  go_wp2_with fail
  refine (reverse_ok A1 A2 c1 c2 sg mt (l : Int) wx (· < wx.heap.size) HDX.out.rs HDX.out.rm (fun _ h => h) HI.out).mono ?_
  rintro e w4 ⟨v1, v2, q, r, rfl, him, hF, hb⟩
  obtain ⟨B1, d1, rfl, -, -, -⟩ := hF.os.shape
  obtain ⟨B2, d2, rfl, -, -, -⟩ := hF.om.shape
  have HIM := Lib.hid him
  have HX := Lib.hid (mv_isD HI.out (moved_R HI.out him))
  have HW := Lib.hid (WiS.mk3 (l := l) HDX.out HZX.out HLX.out HBX.out HRS.out HRM.out HKX.out hb hF)
  have hz4 := HZX.out.below hb
  have z0 := hz4.z0
  have z1 := hz4.z1
  have z2 := hz4.z2
  have f0 := hz4.f0
  have f1 := hz4.f1
  have f2 := hz4.f2
  have hlt4 := hz4.lt
  clear hz4
  obtain ⟨bx, hbxe⟩ : ∃ b, w3.heap.size = b := ⟨_, rfl⟩
  rw [hbxe] at HW z0 z1 z2 f0 f1 f2 hlt4 ⊢
  have hd4 := HDX.out.below hb
  have k0 := hd4.c0
  have k1 := hd4.c1
  have k2 := hd4.c2
  have hne : ¬ w.heap.size = bx := by have := HLX.out; omega
  have hne' : ¬ bx = w.heap.size := by have := HLX.out; omega
  clear him hF hb HKX HDX HBX HLX HZX hbxe hd4
  go_wp2_with fail
  generalize (((w4.setCell ⟨bx, 0, none⟩ (.slice B1 q.length d1)).setCell ⟨bx, 1, none⟩ (.slice B2 r.length d2)).setCell ⟨bx, 2, none⟩ (.int .i64 (l : Int))) = w5 at HW ⊢
  clear z0 z1 z2 f0 f1 f2 hlt4 k0 k1 k2 hne hne'
  have hcx : arC q r ≤ 256 := by
    have h1 := cnt_le (headB (arR q r)) r.length
    have h2 := HX.out.1
    have h3 := HX.out.2.1
    unfold arC; omega
  have hNN := homs_R HI.out HIM.out l
  obtain ⟨m, hm⟩ : ∃ m, arC sg mt = m := ⟨_, rfl⟩
  obtain ⟨n, hn⟩ : ∃ n, arC q r = n := ⟨_, rfl⟩
  rw [hm] at hcn
  rw [hn] at hcx
  rw [hm, hn] at hNN
  obtain ⟨N, hN⟩ : ∃ N, homN (wrdL sg mt sg.length) (m + l) (6 ^ (m + l)) = N := ⟨_, rfl⟩
  rw [hN] at hNN
  have HN1 := Lib.hid hN
  have HN2 := Lib.hid hNN.symm
  have HM := Lib.hid hm
  have HNX := Lib.hid hn
  clear hNN hN hm hn
  have k0 := HW.out.db.c0
  have k1 := HW.out.db.c1
  have k2 := HW.out.db.c2
  have j0 := HW.out.dx.c0
  have j1 := HW.out.dx.c1
  have j2 := HW.out.dx.c2
  refine (of_ok A1 A2 c1 c2 sg mt (l : Int) w5 (· < w5.heap.size) HW.out.db.rs HW.out.db.rm (fun _ h => h) HI.out).mono ?_
  rintro e w6 ⟨v3, v4, rfl, ho, hr, hb⟩
  rw [show ((l : Int)).toNat = l from rfl] at ho
  rw [HM.out]
  have HW6 := Lib.hid (HW.out.call hb)
  obtain ⟨Ac, cc, hv3, -, -, hrc⟩ := ho.reads
  obtain ⟨Aw, cw, hv4, hrw⟩ := hr.reads
  rw [cmp_len, HM.out] at hv3
  rw [wrdL_len] at hv4
  subst hv3 hv4
  have HX6 := Lib.hid ((Below.refl w6.heap.size w6).alloc (Nat.le_refl _) (.cells #[.int .i64 ((m : Int) + (l : Int)), .slice Ac (m + l) cc, .slice Aw sg.length cw] 35))
  have HS6 : Hid (OSt (w6.alloc (.cells #[.int .i64 ((m : Int) + (l : Int)), .slice Ac (m + l) cc, .slice Aw sg.length cw] 35)) w.heap.size w6.heap.size A1 A2 Ac Aw c1 c2 cc cw sg mt l m) :=
    ⟨HW6.out.db.below HX6.out, heap_alloc_new _ _, (hrc.imp (T := (· < w6.heap.size)) fun b hb => hb.2).below HX6.out |>.imp fun b hb => by have := HX6.out.size; omega, (hrw.imp (T := (· < w6.heap.size)) fun b hb => hb.2).below HX6.out |>.imp fun b hb => by have := HX6.out.size; omega⟩
  have HW7 := Lib.hid (HW6.out.call HX6.out)
  have j0 := HW6.out.dx.c0
  have j1 := HW6.out.dx.c1
  have j2 := HW6.out.dx.c2
  have hlx6 := HW6.out.dx.lt
  clear hb ho hr hrc hrw k0 k1 k2 HW HX6
  go_wp2_with fail
  obtain ⟨ga, hga⟩ : ∃ g, w6.heap.size = g := ⟨_, rfl⟩
  rw [hga] at HS6 ⊢
  generalize (w6.alloc (.cells #[.int .i64 ((m : Int) + (l : Int)), .slice Ac (m + l) cc, .slice Aw sg.length cw] 35)) = w7 at HS6 HW7 ⊢
  clear hga j0 j1 j2 HW6
  have j0 := HW7.out.dx.c0
  have j1 := HW7.out.dx.c1
  have j2 := HW7.out.dx.c2
  refine (of_ok B1 B2 d1 d2 q r (l : Int) w7 (· < w7.heap.size) HW7.out.dx.rs HW7.out.dx.rm (fun _ h => h) HX.out).mono ?_
  rintro e w8 ⟨v3, v4, rfl, ho, hr, hb⟩
  rw [show ((l : Int)).toNat = l from rfl] at ho
  rw [HNX.out]
  have HW8 := Lib.hid (HW7.out.call hb)
  have HS8 := Lib.hid (HS6.out.below hb)
  obtain ⟨Bc, dc, hv3, -, -, hrc⟩ := ho.reads
  obtain ⟨Bw, dw, hv4, hrw⟩ := hr.reads
  rw [cmp_len, HNX.out] at hv3
  rw [wrdL_len] at hv4
  subst hv3 hv4
  have HX8 := Lib.hid ((Below.refl w8.heap.size w8).alloc (Nat.le_refl _) (.cells #[.int .i64 ((n : Int) + (l : Int)), .slice Bc (n + l) dc, .slice Bw q.length dw] 35))
  have HS9 : Hid (Wi2 (w8.alloc (.cells #[.int .i64 ((n : Int) + (l : Int)), .slice Bc (n + l) dc, .slice Bw q.length dw] 35)) w.heap.size bx ga w8.heap.size A1 A2 Ac Aw B1 B2 Bc Bw c1 c2 cc cw d1 d2 dc dw sg mt q r l m n) :=
    ⟨HS8.out.below HX8.out, ⟨HW8.out.dx.below HX8.out, heap_alloc_new _ _, (hrc.imp (T := (· < w8.heap.size)) fun b hb => hb.2).below HX8.out |>.imp fun b hb => by have := HX8.out.size; omega, (hrw.imp (T := (· < w8.heap.size)) fun b hb => hb.2).below HX8.out |>.imp fun b hb => by have := HX8.out.size; omega⟩⟩
  have HB9 := Lib.hid (HW8.out.call HX8.out).bel
  obtain ⟨-, g0, g1, g2, e0, e1, e2⟩ := HS9.out.pack
  clear hb ho hr hrc hrw j0 j1 j2 HW7 HX8 HS6 HS8
  by_cases hbig : (5 : Int) < (m : Int) + (l : Int)
  · go_wp2_with fail
    go_ret
    exact ⟨rfl, HB9.out⟩
  by_cases hbig2 : (5 : Int) < (n : Int) + (l : Int)
  · go_wp2_with fail
    go_ret
    exact ⟨rfl, HB9.out⟩
  have HHA : Hid (∀ W : World, Hid (Wi2 W w.heap.size bx ga w8.heap.size A1 A2 Ac Aw B1 B2 Bc Bw c1 c2 cc cw d1 d2 dc dw sg mt q r l m n) → Calls Try.prog 38 #[.agg #[.int .i64 ((m : Int) + (l : Int)), .slice Ac (m + l) cc, .slice Aw sg.length cw], .func (.func 37) #[] #[]] W fun e w' => e = .returned (.int .i64 (N : Int)) ∧ Below W.heap.size W w') :=
    Lib.hid fun W h => homs_at HI.out HM.out hL2 (by omega) N HN1.out W Ac Aw (m + l) cc cw h.out.a.wd
  have HHB : Hid (∀ W : World, Hid (Wi2 W w.heap.size bx ga w8.heap.size A1 A2 Ac Aw B1 B2 Bc Bw c1 c2 cc cw d1 d2 dc dw sg mt q r l m n) → Calls Try.prog 38 #[.agg #[.int .i64 ((n : Int) + (l : Int)), .slice Bc (n + l) dc, .slice Bw q.length dw], .func (.func 37) #[] #[]] W fun e w' => e = .returned (.int .i64 (N : Int)) ∧ Below W.heap.size W w') :=
    Lib.hid fun W h => homs_at HX.out HNX.out hL2 (by omega) N HN2.out W Bc Bw (n + l) dc dw h.out.b.wd
  go_wp2_with fail
  generalize (w8.alloc (.cells #[.int .i64 ((n : Int) + (l : Int)), .slice Bc (n + l) dc, .slice Bw q.length dw] 35)) = w9 at HS9 HB9 g0 g1 g2 e0 e1 e2 ⊢
  have HSd := Lib.hid (HS9.out.call (Below.refl _ _).drew)
  clear g0 g1 g2 e0 e1 e2 HW8 hbig hbig2 HS9
  go_region_held3 (fun w' => Hid (Wi2 w' w.heap.size bx ga w8.heap.size A1 A2 Ac Aw B1 B2 Bc Bw c1 c2 cc cw d1 d2 dc dw sg mt q r l m n) ∧ w'.cell? ⟨ga, 0, none⟩ = some (.int .i64 ((m : Int) + (l : Int))) ∧ w'.cell? ⟨ga, 1, none⟩ = some (.slice Ac (m + l) cc) ∧ w'.cell? ⟨ga, 2, none⟩ = some (.slice Aw sg.length cw) ∧
      w'.cell? ⟨w8.heap.size, 0, none⟩ = some (.int .i64 ((n : Int) + (l : Int))) ∧ w'.cell? ⟨w8.heap.size, 1, none⟩ = some (.slice Bc (n + l) dc) ∧ w'.cell? ⟨w8.heap.size, 2, none⟩ = some (.slice Bw q.length dw))
    (first | exact HSd.out.pack | exact hSa.out.pack | exact hSb.out.pack)
    (first
      | (go_at_call 38; with_reducible (show Calls _ _ #[Value.agg #[_, _, Value.slice Aw sg.length cw], _] _ _); (first | (refine (HHA.out w9.drew HSd).mono ?_; rintro e9 wa ⟨rfl, hba⟩; have hSa := Lib.hid (HSd.out.call hba)) | (refine (HHA.out wb hSb).mono ?_; rintro e9 wa ⟨rfl, hba⟩; have hSa := Lib.hid (hSb.out.call hba))))
      | (go_at_call 38; with_reducible (show Calls _ _ #[Value.agg #[_, _, Value.slice Bw q.length dw], _] _ _); (first | (refine (HHB.out w9.drew HSd).mono ?_; rintro e9 wb ⟨rfl, hbb⟩; have hSb := Lib.hid (HSd.out.call hbb)) | (refine (HHB.out wa hSa).mono ?_; rintro e9 wb ⟨rfl, hbb⟩; have hSb := Lib.hid (hSa.out.call hbb)))))
  all_goals
    first
      | have HBF := Lib.hid ((HB9.out.drew.trans (hba.mono HB9.out.drew.size)).trans (hbb.mono (Nat.le_trans HB9.out.drew.size hba.size)))
      | have HBF := Lib.hid ((HB9.out.drew.trans (hbb.mono HB9.out.drew.size)).trans (hba.mono (Nat.le_trans HB9.out.drew.size hbb.size)))
  all_goals clear hba hbb hSa hSb
  all_goals go_wp2_with fail
  all_goals go_ret
  all_goals exact ⟨rfl, HBF.out⟩
end
theorem wirtingerImages_walk (A1 A2 : Option Addr) (c1 c2 : Nat) (sg mt : List Int) (L : Int) (kk : Int) (w : World) (hd : DArg w A1 A2 sg mt L) (wf : (Lit.int .u8 kk).wf = true) :
    Calls Try.prog 9 #[.agg #[.slice A1 sg.length c1, .slice A2 mt.length c2, .int .i64 L], .int .u8 kk] w fun e w' => e = .returned (.bool true) ∧ Below w.heap.size w w' := by
  have hk : 0 ≤ kk ∧ kk ≤ 255 := by
    simp [Lit.wf, IntKind.min, IntKind.max, IntKind.signed, IntKind.bits] at wf
    omega
  clear wf
  by_cases hf : fewB sg mt L
  · by_cases hi : IsD sg mt L
    · rcases (show kk % 3 = 0 ∨ kk % 3 = 1 ∨ kk % 3 = 2 by omega) with h3 | h3 | h3
      · exact wim_M A1 A2 c1 c2 sg mt L w hd kk hf hi hk h3
      · exact wim_F A1 A2 c1 c2 sg mt L w hd kk hf hi hk h3
      · exact wim_R A1 A2 c1 c2 sg mt L w hd kk hf hi hk h3
    · exact wim_no A1 A2 c1 c2 sg mt L w hd kk hf hi
  · exact wim_great A1 A2 c1 c2 sg mt L w hd kk hf
end Go.Proofs.Ytcjgfncbecbhjaa

