/-
  The contract of residues.
-/
import Derived.Test.YteanhbldhaiekaaZ10
import Derived.Deep.RegionWith
import Derived.BigRegion
namespace Go.Proofs.Yteanhbldhaiekaa
open Go.RowKit

theorem u64_info : (Try.prog.info? 79).map (fun i => (i.zero, i.size, i.bytes)) = some (some (.int .u64 0), 1, 8) := by kernel_rfl
theorem urow_info : (Try.prog.info? 91).map (fun i => (i.zero, i.size, i.bytes)) = some (some (.slice none 0 0), 1, 24) := by kernel_rfl
theorem make_u64 (n : Nat) (hn : n ≤ 1099511627776) (w : World) :
    (Instr.makeSlice 91 (.int .i64 (n : Int)) (.int .i64 (n : Int))).run Try.prog w = .ok (.slice (some ⟨w.heap.size, 0, none⟩) n n) (w.alloc (.cells (List.replicate n (Value.int .u64 0)).toArray 79)) := by
  obtain ⟨i0, hi, hz0, hz1, hz2⟩ := info_parts u64_info
  have h := run_make (P := Try.prog) w 91 79 i0 (.int .u64 0) Try.underlying91 hi hz0 .i64 .i64 n n (by omega) (Int.le_refl _) (by rw [hz2]; omega) (by omega)
  simp only [Int.toNat_natCast] at h
  rw [h, hz1]
  have e : madeCells (Value.int .u64 0).cells (n * 1) = (List.replicate n (Value.int .u64 0)).toArray := by
    apply Array.toList_inj.1
    rw [Nat.mul_one, show (Value.int .u64 0).cells = #[Value.int .u64 0] from rfl, toList_madeCells_one]
  rw [e]
theorem make_urow (n : Nat) (hn : n ≤ 1099511627776) (w : World) :
    (Instr.makeSlice 88 (.int .i64 (n : Int)) (.int .i64 (n : Int))).run Try.prog w = .ok (.slice (some ⟨w.heap.size, 0, none⟩) n n) (w.alloc (.cells (List.replicate n (Value.slice none 0 0)).toArray 91)) := by
  obtain ⟨i0, hi, hz0, hz1, hz2⟩ := info_parts urow_info
  have h := run_make (P := Try.prog) w 88 91 i0 (.slice none 0 0) Try.underlying88 hi hz0 .i64 .i64 n n (by omega) (Int.le_refl _) (by rw [hz2]; omega) (by omega)
  simp only [Int.toNat_natCast] at h
  rw [h, hz1]
  have e : madeCells (Value.slice none 0 0).cells (n * 1) = (List.replicate n (Value.slice none 0 0)).toArray := by
    apply Array.toList_inj.1
    rw [Nat.mul_one, show (Value.slice none 0 0).cells = #[Value.slice none 0 0] from rfl, toList_madeCells_one]
  rw [e]
theorem cell_rep {w : World} {n k : Nat} {v : Value} {t : TypeId} (hk : k < n) : (w.alloc (.cells (List.replicate n v).toArray t)).cell? ⟨w.heap.size, k, none⟩ = some v ∧ (w.alloc (.cells (List.replicate n v).toArray t)).frozen? ⟨w.heap.size, k, none⟩ = false := by
  refine ⟨?_, ?_⟩
  · rw [World.cell?_alloc_new]; simp [hk]
  · exact World.frozen?_alloc_new w _ t k

/-- a function with one value set -/
def up {α : Type} (f : Nat → α) (i : Nat) (v : α) (x : Nat) : α := if x = i then v else f x
theorem MX.push {w : World} {S : Nat → Prop} {P : Option Addr} {bA n c i : Nat} {A : Nat → Option Addr} {bs : Nat → Nat} {a : Nat → Nat → Nat} (h : MX w S P bA i c A bs a) (hP : P = some ⟨bA, 0, none⟩) (hA : S bA ∧ bA < w.heap.size) (hS : S w.heap.size)
    {v : Value} (_hi : i < n) (hc : w.cell? ⟨bA, i, none⟩ = some v) (hf : w.frozen? ⟨bA, i, none⟩ = false) :
    MX ((w.alloc (.cells (List.replicate c (Value.int .u64 0)).toArray 79)).setCell ⟨bA, i, none⟩ (.slice (some ⟨w.heap.size, 0, none⟩) c c)) S P bA (i + 1) c (up A i (some ⟨w.heap.size, 0, none⟩)) (up bs i w.heap.size) (up a i fun _ => 0) := by
  have h1 := h.alloc (.cells (List.replicate c (Value.int .u64 0)).toArray 79)
  have hne : w.heap.size ≠ bA := by omega
  refine ⟨fun _ => ⟨hP, hA.1, by simp; omega⟩, fun x hx => ?_, fun x hx => ?_, fun x hx hc => ?_, fun x y hx hy hc e => ?_, fun x y hx hy => ?_, fun x y hx hy => ?_⟩
  · unfold up
    by_cases e : x = i
    · subst e
      rw [if_pos rfl]
      exact set_same ((World.cell?_alloc_old w _ ⟨bA, x, none⟩ (by simp; omega)).trans hc)
    · rw [if_neg e, set_other (by intro e2; injection e2 with _ e2; exact e e2.symm)]
      exact h1.hd x (by omega)
  · rw [World.frozen?_setCell]
    by_cases e : x = i
    · subst e
      exact (World.frozen?_of_block (a := ⟨bA, x, none⟩) (Below.heap_alloc w _ bA hA.2)).trans hf
    · exact h1.fz x (by omega)
  · rw [World.size_setCell]
    unfold up
    by_cases e : x = i
    · rw [if_pos e, if_pos e]; exact ⟨rfl, hS, by simp, hne⟩
    · rw [if_neg e, if_neg e]; exact h1.ad x (by omega) hc
  · unfold up at e
    by_cases e1 : x = i
    · by_cases e2 : y = i
      · omega
      · rw [if_pos e1, if_neg e2] at e
        have := (h.ad y (by omega) hc).2.2.1
        omega
    · by_cases e2 : y = i
      · rw [if_neg e1, if_pos e2] at e
        have := (h.ad x (by omega) hc).2.2.1
        omega
      · rw [if_neg e1, if_neg e2] at e
        exact h.ij x y (by omega) (by omega) hc e
  · unfold up
    by_cases e : x = i
    · rw [if_pos e, if_pos e, set_other (by intro e2; injection e2 with e2; omega)]
      exact (cell_rep hy).1
    · rw [if_neg e, if_neg e, set_other (by intro e2; injection e2 with e2; exact (h.ad x (by omega) (by omega)).2.2.2 e2.symm)]
      exact h1.en x y (by omega) hy
  · rw [World.frozen?_setCell]
    unfold up
    by_cases e : x = i
    · rw [if_pos e]; exact (cell_rep hy).2
    · rw [if_neg e]; exact h1.fr x y (by omega) hy

/-- the residue of an integer -/
def rs (m : Nat) (x : Int) : Nat := if x < 0 then subN 0 (x.natAbs % m) m else x.natAbs % m
/-- the first i rows are laid; of the row i the first j entries -/
structure RSt (w0 w : World) (xss : List (List Int)) (m n c i : Nat) (A : Nat → Option Addr) (bs : Nat → Nat) (a : Nat → Nat → Nat) : Prop where
  mx : MX w (fun b => w0.heap.size ≤ b) (some ⟨w0.heap.size, 0, none⟩) w0.heap.size i c A bs a
  sz : w0.heap.size < w.heap.size
  hd : ∀ x, x < n → (∃ v, w.cell? ⟨w0.heap.size, x, none⟩ = some v) ∧ w.frozen? ⟨w0.heap.size, x, none⟩ = false
  bel : Below w0.heap.size w0 w
theorem RSt.start {w0 : World} {xss : List (List Int)} {m n c : Nat} : RSt w0 (w0.alloc (.cells (List.replicate n (Value.slice none 0 0)).toArray 91)) xss m n c 0 (fun _ => none) (fun _ => 0) (fun _ _ => 0) :=
  ⟨⟨fun h => by omega, fun i h => by omega, fun i h => by omega, fun i h => by omega, fun i k h => by omega, fun i j h => by omega, fun i j h => by omega⟩, by simp, fun x hx => ⟨⟨_, (cell_rep hx).1⟩, (cell_rep hx).2⟩, (Below.refl _ _).alloc (Nat.le_refl _) _⟩
theorem RSt.push {w0 w : World} {xss : List (List Int)} {m n c i : Nat} {A : Nat → Option Addr} {bs : Nat → Nat} {a : Nat → Nat → Nat} (h : RSt w0 w xss m n c i A bs a) (hi : i < n) :
    RSt w0 ((w.alloc (.cells (List.replicate c (Value.int .u64 0)).toArray 79)).setCell ⟨w0.heap.size, i, none⟩ (.slice (some ⟨w.heap.size, 0, none⟩) c c)) xss m n c (i + 1) (up A i (some ⟨w.heap.size, 0, none⟩)) (up bs i w.heap.size) (up a i fun _ => 0) := by
  obtain ⟨⟨v, hv⟩, hf⟩ := h.hd i hi
  refine ⟨h.mx.push rfl ⟨Nat.le_refl _, h.sz⟩ h.bel.size hi hv hf, by rw [World.size_setCell]; simp; have := h.sz; omega, fun x hx => ?_, ?_⟩
  · obtain ⟨⟨u, hu⟩, hg⟩ := h.hd x hx
    have hu' : (w.alloc (.cells (List.replicate c (Value.int .u64 0)).toArray 79)).cell? ⟨w0.heap.size, x, none⟩ = some u := (World.cell?_alloc_lt w _ ⟨w0.heap.size, x, none⟩ h.sz).trans hu
    refine ⟨?_, ?_⟩
    · by_cases e : x = i
      · subst e; exact ⟨_, set_same hu'⟩
      · exact ⟨u, by rw [set_other (by intro e2; injection e2 with _ e2; exact e e2.symm)]; exact hu'⟩
    · rw [World.frozen?_setCell]
      exact (World.frozen?_of_block (a := ⟨w0.heap.size, x, none⟩) (Below.heap_alloc w _ w0.heap.size h.sz)).trans hg
  · exact (h.bel.alloc h.bel.size _).setCell (Nat.le_refl _) _
theorem RSt.store {w0 w : World} {xss : List (List Int)} {m n c i : Nat} {A : Nat → Option Addr} {bs : Nat → Nat} {a : Nat → Nat → Nat} (h : RSt w0 w xss m n c i A bs a) {x y : Nat} (hx : x < i) (hy : y < c) (v : Nat) :
    RSt w0 (w.setCell ⟨bs x, y, none⟩ (.int .u64 (v : Nat))) xss m n c i A bs (fun p q => if p = x ∧ q = y then v else a p q) := by
  obtain ⟨h1, h2, h3, h4⟩ := h.mx.ad x hx (by omega)
  refine ⟨h.mx.store hx hy v, by rw [World.size_setCell]; exact h.sz, fun z hz => ?_, h.bel.setCell h2 _⟩
  rw [World.frozen?_setCell, set_other (by intro e; injection e with e; exact h4 e)]
  exact h.hd z hz
theorem RSt.drewN {w0 w : World} {xss : List (List Int)} {m n c i : Nat} {A : Nat → Option Addr} {bs : Nat → Nat} {a : Nat → Nat → Nat} (h : RSt w0 w xss m n c i A bs a) (k : Nat) : RSt w0 (w.drewN k) xss m n c i A bs a :=
  ⟨h.mx.drewN k, h.sz, h.hd, ⟨h.bel.os, h.bel.tape, h.bel.output, h.bel.size, h.bel.block⟩⟩

set_option maxHeartbeats 4000000 in
theorem residues_any (A0 : Option Addr) (cap : Nat) (xss : List (List Int)) (n c md : Nat) (w : World) (T : Nat → Prop) (hx : RL w T A0 xss) (hT : ∀ b, T b → b < w.heap.size) (hn : xss.length = n) (hc : ∀ i, i < n → (xss.getD i []).length = c) (hnl : n ≤ 1000) (hcl : c ≤ 1000)
    (hb : ∀ i j, i < n → j < c → -1125899906842624 ≤ eI xss i j ∧ eI xss i j ≤ 1125899906842624) (hm : 0 < md ∧ md ≤ 4611686018427387904) :
    Calls Try.prog 65 #[.slice A0 n cap, .int .u64 md] w fun e w' => ∃ P bA A bs, e = .returned (.slice P n n) ∧ Below w.heap.size w w' ∧ MX w' (fun b => w.heap.size ≤ b) P bA n c A bs (fun i j => rs md (eI xss i j)) := by
  have hmk := make_urow n (by omega)
  have HX := Lib.hid hx
  have HT := Lib.hid hT
  have HN := Lib.hid hn
  have HC := Lib.hid hc
  have HB := Lib.hid hb
  have HM := Lib.hid hm
  have H0 := Lib.hid (RSt.start (w0 := w) (xss := xss) (m := md) (n := n) (c := c))
  clear hx hT hn hc hb hm
  go_enter Try.func65, Try.ntmps65
  go_wp2_with fail
  clear hmk
  go_loopw [15] (fun i wr => ∃ (k : Nat) (A : Nat → Option Addr) (bs : Nat → Nat) (a : Nat → Nat → Nat), k ≤ n ∧ i = .int .i64 k ∧ Hid (RSt w wr xss md n c k A bs a) ∧ Hid (∀ x y, x < k → y < c → a x y = rs md (eI xss x y))) (fun i _ => n - (intOf i).toNat)
  case atStart => exact ⟨0, _, _, _, Nat.zero_le _, rfl, by simpa using H0, fun x y hx => by omega⟩
  case round =>
    clear H0
    obtain ⟨k, A, bs, a, hk, rfl, HR, HV⟩ := hrel
    by_cases hlt : k < n
    · have hx := HX.out.imp (T := (· < w.heap.size)) HT.out
      obtain ⟨b, off, rfl, hbl, hcs⟩ := hx.at_ (k := k) (by rw [HN.out]; exact hlt)
      obtain ⟨Ak, ck, c1, hr, -⟩ := hcs k (by rw [HN.out]; exact hlt)
      rw [HC.out k hlt, ← HR.out.bel.cell (p := ⟨b, off + k, none⟩) hbl] at c1
      have HRI := Lib.hid hr
      obtain ⟨⟨v0, c0⟩, f0⟩ := HR.out.hd k hlt
      have s0 := HR.out.sz
      have hbw : b < wr.heap.size := by omega
      have HP := Lib.hid (HR.out.push (i := k) hlt)
      have hmk := make_u64 c (by omega)
      have c0' : (wr.alloc (.cells (Array.replicate c (Value.int .u64 0)) 79)).cell? ⟨w.heap.size, k, none⟩ = some v0 := (World.cell?_alloc_lt wr _ ⟨w.heap.size, k, none⟩ s0).trans c0
      have f0' : (wr.alloc (.cells (Array.replicate c (Value.int .u64 0)) 79)).frozen? ⟨w.heap.size, k, none⟩ = false := (World.frozen?_alloc_old wr _ ⟨w.heap.size, k, none⟩ (by simp; omega)).trans f0
      have HV1 : Hid (∀ x y, x < k → y < c → up a k (fun _ => 0) x y = rs md (eI xss x y)) := by
        intro x y hx hy
        unfold up
        rw [if_neg (by omega)]
        exact HV.out x y hx hy
      have HU : Hid (up A k (some ⟨wr.heap.size, 0, none⟩) k = some ⟨wr.heap.size, 0, none⟩ ∧ up bs k wr.heap.size k = wr.heap.size) := ⟨if_pos rfl, if_pos rfl⟩
      clear hx hcs hr hbl
      go_wp2_with fail
      generalize up A k (some ⟨wr.heap.size, 0, none⟩) = A' at HP HU
      generalize up bs k wr.heap.size = bs' at HP HU
      generalize up a k (fun _ => 0) = a' at HP HV1
      rw [show (List.replicate c (Value.int .u64 0)).toArray = Array.replicate c (Value.int .u64 0) by simp, World.setCell_alloc_past _ _ _ _ s0] at HP
      generalize (wr.setCell ⟨w.heap.size, k, none⟩ (.slice (some ⟨wr.heap.size, 0, none⟩) c c)).alloc (.cells (Array.replicate c (Value.int .u64 0)) 79) = w1 at HP ⊢
      clear hmk c0' f0' c0 c1 f0 HV HR hbw s0
      generalize wr.heap.size = gb at HU ⊢
      clear v0
      have HA' := Lib.hid HU.out.1
      have HBS := Lib.hid HU.out.2
      have HCL := Lib.hid (HC.out k hlt)
      clear HU
      go_loopw [28] (fun i wx => ∃ (j : Nat) (a2 : Nat → Nat → Nat), j ≤ c ∧ i = .int .i64 j ∧ Hid (RSt w wx xss md n c (k + 1) A' bs' a2) ∧ Hid (∀ x y, x < k → y < c → a2 x y = rs md (eI xss x y)) ∧ Hid (∀ y, y < j → a2 k y = rs md (eI xss k y))) (fun i _ => c - (intOf i).toNat)
      case atStart => exact ⟨0, a', Nat.zero_le _, rfl, HP, HV1, fun y hy => by omega⟩
      case round =>
        clear HP HV1
        obtain ⟨j, a2, hj, rfl, HP, HV1, HV2⟩ := hrel
        by_cases hlj : j < c
        · have c2 := HP.out.mx.hd k (by omega)
          rw [HA'.out] at c2
          have c3 := HP.out.mx.en k j (by omega) hlj
          have f3 := HP.out.mx.fr k j (by omega) hlj
          rw [HBS.out] at c3 f3
          have hrw := HRI.out.below HP.out.bel
          obtain ⟨bk, ok, rfl, -, hcj⟩ := hrw.at_ (k := j) (by rw [HCL.out]; exact hlj)
          have c4 := hcj j (by rw [HCL.out]; exact hlj)
          obtain ⟨x, hx⟩ : ∃ x, gi (xss.getD k []) j = x := ⟨_, rfl⟩
          rw [hx] at c4
          have hxb := HB.out k j hlt hlj
          rw [show eI xss k j = x from hx] at hxb
          obtain ⟨r, hr⟩ : ∃ r, x.natAbs % md = r := ⟨_, rfl⟩
          have hmd := HM.out
          have hrm : r < md := by rw [← hr]; exact Nat.mod_lt _ hmd.1
          have x1 : ¬ (md : Int) = 0 := by omega
          have x2 : ((x.natAbs : Nat) : Int).tmod (md : Int) = (r : Int) := by rw [← hr]; exact Int.ofNat_tmod _ md
          have x3 : ((x.natAbs : Nat) : Int) % (md : Int) = (r : Int) := by rw [← hr]; rfl
          have x4 : IntKind.u64.wrap (r : Int) = (r : Int) := wrapN _ (by omega)
          have HXE := Lib.hid (show eI xss k j = x from hx)
          have HR' := Lib.hid hr
          have HRM := Lib.hid hrm
          have HXB := Lib.hid hxb
          clear hx hr hrm hmd hxb hcj hrw
          go_upto_region 9 with fail
          go_cut [] from 33 to 60 (fun wx => wx = (wr.setCell ⟨gb, j, none⟩ (.int .u64 r)).drew)
          case first =>
            go_region_with (go_at_call 64; refine (abs_any x (by have := HXB.out.1; omega) (by have := HXB.out.2; omega) _).mono ?_; rintro e w1 ⟨rfl, rfl⟩)
            all_goals
              go_wp2_with fail
              go_meet
              case rel => rfl
          case rest =>
            subst hcut
            have HG : ∃ a3, RSt w (wr.setCell ⟨gb, j, none⟩ (.int .u64 r)).drew xss md n c (k + 1) A' bs' a3 ∧ (∀ x' y, x' < k → y < c → a3 x' y = rs md (eI xss x' y)) ∧ (∀ y, y < j → a3 k y = rs md (eI xss k y)) ∧ a3 k j = r := by
              have h1 := (HP.out.store (x := k) (y := j) (by omega) hlj r).drewN 1
              rw [HBS.out] at h1
              refine ⟨_, h1, fun x' y hx' hy => ?_, fun y hy => ?_, if_pos ⟨rfl, rfl⟩⟩
              · rw [if_neg (by omega)]; exact HV1.out x' y hx' hy
              · rw [if_neg (by omega)]; exact HV2.out y hy
            clear c2 c3 f3 c4 HP HV1 HV2
            generalize (wr.setCell ⟨gb, j, none⟩ (.int .u64 r)).drew = w1 at HG ⊢
            obtain ⟨a3, h1, h2, h3, h4⟩ := HG
            have d2 := h1.mx.hd k (by omega)
            rw [HA'.out] at d2
            have d3 := h1.mx.en k j (by omega) hlj
            have g3 := h1.mx.fr k j (by omega) hlj
            rw [HBS.out, h4] at d3
            rw [HBS.out] at g3
            have HP := Lib.hid h1
            have HV1 := Lib.hid h2
            have HV2 := Lib.hid h3
            have HV3 := Lib.hid h4
            clear h1 h2 h3 h4
            by_cases hneg : x < 0
            · obtain ⟨q, hq⟩ : ∃ q, subN 0 r md = q := ⟨_, rfl⟩
              have hmd := HM.out
              have hql : q < md := by rw [← hq]; exact subN_lt hmd.1 HRM.out
              have HRS : Hid (rs md x = q) := by
                unfold rs
                rw [if_pos hneg, HR'.out]
                exact hq
              have HQ := Lib.hid hq
              clear hmd hq hql
              go_wp2_with fail
              go_region_with (go_at_call 68; refine (submod_any 0 r md HM.out.1 HRM.out (by have := HM.out.2; omega) _).mono ?_; rintro e w2 ⟨rfl, rfl⟩; rw [HQ.out])
              all_goals
                have h1 := (HP.out.store (x := k) (y := j) (by omega) hlj q).drewN 1
                rw [HBS.out] at h1
                have HP' := Lib.hid h1
                have HV1' : Hid (∀ x' y, x' < k → y < c → (if x' = k ∧ y = j then q else a3 x' y) = rs md (eI xss x' y)) := by
                  intro x' y hx' hy
                  rw [if_neg (by omega)]; exact HV1.out x' y hx' hy
                have HV2' : Hid (∀ y, y < j + 1 → (if k = k ∧ y = j then q else a3 k y) = rs md (eI xss k y)) := by
                  intro y hy
                  by_cases e : y = j
                  · rw [if_pos ⟨rfl, e⟩, e, HXE.out, HRS.out]
                  · rw [if_neg (fun h => e h.2)]; exact HV2.out y (by omega)
                clear h1 HP HV1 HV2 HV3 d2 d3 g3
                go_wp2_with fail
                go_roundw
                case rel => exact ⟨j + 1, _, by omega, by go_num, HP', HV1', HV2'⟩
                case measure => simp [intOf]; omega
            · have HV2' : Hid (∀ y, y < j + 1 → a3 k y = rs md (eI xss k y)) := by
                intro y hy
                by_cases e : y = j
                · rw [e, HXE.out, HV3.out]
                  unfold rs
                  rw [if_neg hneg, HR'.out]
                · exact HV2.out y (by omega)
              clear HV2 HV3 d2 d3 g3
              go_wp2_with fail
              go_roundw
              case rel => exact ⟨j + 1, _, by omega, by go_num, HP, HV1, HV2'⟩
              case measure => simp [intOf]; omega
        · have HV' : Hid (∀ x y, x < k + 1 → y < c → a2 x y = rs md (eI xss x y)) := by
            intro x y hx hy
            by_cases e : x = k
            · subst e; exact HV2.out y (by omega)
            · exact HV1.out x y (by omega) hy
          clear HV1 HV2
          go_wp2_with fail
          go_roundw
          case rel => exact ⟨k + 1, _, _, _, by omega, by go_num, HP, HV'⟩
          case measure => simp [intOf]; omega
    · obtain rfl : k = n := by omega
      go_wp2_with fail
      go_ret
      exact ⟨_, _, _, _, rfl, HR.out.bel, HR.out.mx.congr HV.out⟩
end Go.Proofs.Yteanhbldhaiekaa
