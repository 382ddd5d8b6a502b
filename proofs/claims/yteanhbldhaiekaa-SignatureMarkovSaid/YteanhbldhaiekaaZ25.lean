/-
  The contract of intmatrix.Mul.
-/
import Derived.Test.YteanhbldhaiekaaZ24
import Derived.Deep.CutBlock
import Derived.BigRegion
namespace Go.Proofs.Yteanhbldhaiekaa
open Go.RowKit

theorem AM.nil0 (w : World) : AM w none 0 [] := ⟨RL.nil _ _ _, rfl, Nat.zero_le _, fun _ _ hi => absurd hi (Nat.not_lt_zero _)⟩
theorem mlL_no {xa xb : List (List Int)} {e : Nat} (h : mlE xa xb = e) (h0 : e ≠ 0) : mlL xa xb = [] := by unfold mlL; rw [if_neg (by rw [h]; exact h0)]
theorem AM.below {w w' : World} {A : Option Addr} {n : Nat} {xss : List (List Int)} (h : AM w A n xss) {W : World} (hW : Below w.heap.size w W) (hb : Below W.heap.size W w') : AM w' A n xss := h.call (below_cons hW hb)
/-- what is known of the product behind i rows, k elements of the next one, l terms of the next element -/
structure MuS (w w1 wr : World) (xa xb : List (List Int)) (n d i : Nat) (bs : Nat → Nat) (a : Nat → Nat → Int) : Prop where
  mi : MI wr w.heap.size w1.heap.size i d bs a
  bel : Below w.heap.size w wr
  lt : w1.heap.size < wr.heap.size
  le : w.heap.size ≤ w1.heap.size
  hd : ∀ j, j < n → (∃ v, wr.cell? ⟨w1.heap.size, j, none⟩ = some v) ∧ wr.frozen? ⟨w1.heap.size, j, none⟩ = false
section
variable {w w1 wr : World} {xa xb : List (List Int)} {n d i : Nat} {bs : Nat → Nat} {a : Nat → Nat → Int}
theorem MuS.heap {w' : World} (h : MuS w w1 wr xa xb n d i bs a) (e : w'.heap = wr.heap) (e1 : w'.os = wr.os) (e2 : w'.tape = wr.tape) (e3 : w'.output = wr.output) : MuS w w1 w' xa xb n d i bs a :=
  ⟨h.mi.heap e, ⟨e1.trans h.bel.os, e2.trans h.bel.tape, e3.trans h.bel.output, by rw [e]; exact h.bel.size, fun k hk => by rw [e]; exact h.bel.block k hk⟩, by rw [e]; exact h.lt, h.le,
   fun j hj => ⟨by obtain ⟨⟨v, hv⟩, -⟩ := h.hd j hj; exact ⟨v, (World.cell?_of_block (a := ⟨w1.heap.size, j, none⟩) (by rw [e])).trans hv⟩, (World.frozen?_of_block (a := ⟨w1.heap.size, j, none⟩) (by rw [e])).trans (h.hd j hj).2⟩⟩
theorem MuS.start (hb : Below w.heap.size w w1) : MuS w w1 (w1.alloc (.cells (List.replicate n (Value.slice none 0 0)).toArray 33)) xa xb n d 0 (fun _ => 0) (fun _ _ => 0) :=
  ⟨MI.zero _ _ _ _, hb.alloc hb.size _, by simp, hb.size, fun j hj => ⟨⟨_, (cell_rep hj).1⟩, (cell_rep hj).2⟩⟩
theorem MuS.push (h : MuS w w1 wr xa xb n d i bs a) (hi : i < n) :
    MuS w w1 ((wr.alloc (.cells (List.replicate d (Value.int .i64 0)).toArray 3)).setCell ⟨w1.heap.size, i, none⟩ (.slice (some ⟨wr.heap.size, 0, none⟩) d d)) xa xb n d (i + 1) (up bs i wr.heap.size) (up a i fun _ => 0) := by
  obtain ⟨⟨v, hv⟩, hf⟩ := h.hd i hi
  refine ⟨h.mi.push h.bel.size h.lt hv, (h.bel.alloc h.bel.size _).setCell h.le _, by simp; have := h.lt; omega, h.le, fun j hj => ?_⟩
  obtain ⟨⟨v2, hv2⟩, hf2⟩ := h.hd j hj
  have e1 : (wr.alloc (.cells (List.replicate d (Value.int .i64 0)).toArray 3)).cell? ⟨w1.heap.size, j, none⟩ = some v2 := (World.cell?_of_block (a := ⟨w1.heap.size, j, none⟩) (Below.heap_alloc wr _ _ h.lt)).trans hv2
  refine ⟨?_, by rw [World.frozen?_setCell]; exact (World.frozen?_of_block (a := ⟨w1.heap.size, j, none⟩) (Below.heap_alloc wr _ _ h.lt)).trans hf2⟩
  by_cases e : j = i
  · subst e; exact ⟨_, set_same e1⟩
  · exact ⟨v2, (set_other (by intro e2; injection e2 with _ e2; exact e e2.symm)).trans e1⟩
theorem MuS.store (h : MuS w w1 wr xa xb n d i bs a) {x y : Nat} (hx : x < i) (hy : y < d) (v : Int) : MuS w w1 (wr.setCell ⟨bs x, y, none⟩ (.int .i64 v)) xa xb n d i bs (fun p q => if p = x ∧ q = y then v else a p q) := by
  obtain ⟨h1, h2, h3⟩ := h.mi.ad x hx
  refine ⟨h.mi.store hx hy v, h.bel.setCell h1 _, by rw [World.size_setCell]; exact h.lt, h.le, fun j hj => ?_⟩
  obtain ⟨⟨v2, hv2⟩, hf2⟩ := h.hd j hj
  exact ⟨⟨v2, (set_other (by intro e; injection e with e; exact h3 e)).trans hv2⟩, by rw [World.frozen?_setCell]; exact hf2⟩
theorem MuS.congr {b : Nat → Nat → Int} (h : MuS w w1 wr xa xb n d i bs a) (he : ∀ x y, x < i → y < d → a x y = b x y) : MuS w w1 wr xa xb n d i bs b := ⟨h.mi.congr he, h.bel, h.lt, h.le, h.hd⟩
end
theorem ixa0 (a b : Value) (w : World) : (Instr.index 95 (.agg #[a, b]) (.int .i64 0)).run Try.prog w = .ok a w := by kernel_rfl
theorem ixa1 (a b : Value) (w : World) : (Instr.index 95 (.agg #[a, b]) (.int .i64 1)).run Try.prog w = .ok b w := by kernel_rfl
theorem make_introw (n : Nat) (hn : n ≤ 1099511627776) (w : World) :
    (Instr.makeSlice 22 (.int .i64 (n : Int)) (.int .i64 (n : Int))).run Try.prog w = .ok (.slice (some ⟨w.heap.size, 0, none⟩) n n) (w.alloc (.cells (List.replicate n (Value.slice none 0 0)).toArray 33)) := by
  obtain ⟨i0, hi, hz0, hz1, hz2⟩ := info_parts (show (Try.prog.info? 33).map (fun i => (i.zero, i.size, i.bytes)) = some (some (.slice none 0 0), 1, 24) by kernel_rfl)
  have h := run_make (P := Try.prog) w 22 33 i0 (.slice none 0 0) Try.underlying22 hi hz0 .i64 .i64 n n (by omega) (Int.le_refl _) (by rw [hz2]; omega) (by omega)
  simp only [Int.toNat_natCast] at h
  rw [h, hz1]
  have e : madeCells (Value.slice none 0 0).cells (n * 1) = (List.replicate n (Value.slice none 0 0)).toArray := by
    apply Array.toList_inj.1
    rw [Nat.mul_one, show (Value.slice none 0 0).cells = #[Value.slice none 0 0] from rfl, toList_madeCells_one]
  rw [e]
section
variable {w : World} {A B : Option Addr} {n m ca cb : Nat} {xa xb : List (List Int)}
set_option maxHeartbeats 2000000 in
theorem mul_arg (ha : AM w A n xa) (hb : AM w B m xb) (h : ¬ (IsM xa ∧ IsM xb ∧ rowL xa 0 = xb.length)) :
    Calls Try.prog 49 #[.slice A n ca, .slice B m cb] w fun e w' => e = .returned (.tuple #[.slice none 0 0, .int .i64 1]) ∧ w = w' := by
  have HA := Lib.hid ha
  have HB := Lib.hid hb
  clear ha hb
  by_cases h1 : IsM xa
  · have H1 := Lib.hid (HA.out.ism (cap := ca) true (decide_eq_true h1))
    by_cases h2 : IsM xb
    · have H2 := Lib.hid (HB.out.ism (cap := cb) true (decide_eq_true h2))
      have H3 := Lib.hid (HA.out.cols (cap := ca))
      have h3 : ((rowL xa 0 : Nat) : Int) ≠ (m : Int) := fun e => h ⟨h1, h2, by have := HB.out.ln; omega⟩
      have h3' : (((rowL xa 0 : Nat) : Int) != (m : Int)) = true := by rw [bne_iff_ne]; exact h3
      clear h h1 h2 h3
      go_enter Try.func49, Try.ntmps49
      go_wp2_with fail
      refine H1.out.mono ?_
      rintro e w1 ⟨rfl, rfl⟩
      go_wp2_with fail
      refine H2.out.mono ?_
      rintro e w1 ⟨rfl, rfl⟩
      go_wp2_with fail
      refine H3.out.mono ?_
      rintro e w1 ⟨rfl, rfl⟩
      go_wp2_with fail
      go_ret2
      exact ⟨rfl, rfl⟩
    · have H2 := Lib.hid (HB.out.ism (cap := cb) false (decide_eq_false h2))
      clear h h1 h2
      go_enter Try.func49, Try.ntmps49
      go_wp2_with fail
      refine H1.out.mono ?_
      rintro e w1 ⟨rfl, rfl⟩
      go_wp2_with fail
      refine H2.out.mono ?_
      rintro e w1 ⟨rfl, rfl⟩
      go_wp2_with fail
      go_ret2
      exact ⟨rfl, rfl⟩
  · have H1 := Lib.hid (HA.out.ism (cap := ca) false (decide_eq_false h1))
    clear h h1
    go_enter Try.func49, Try.ntmps49
    go_wp2_with fail
    refine H1.out.mono ?_
    rintro e w1 ⟨rfl, rfl⟩
    go_wp2_with fail
    go_ret2
    exact ⟨rfl, rfl⟩
/-- the elements of the k first of the two matrices are in range -/
def Sc (xa xb : List (List Int)) (k : Nat) : Prop := (0 < k → Sm1 xa) ∧ (1 < k → Sm1 xb)
def sel (xa xb : List (List Int)) (k : Nat) : List (List Int) := if k = 0 then xa else xb
set_option maxRecDepth 100000 in
set_option maxHeartbeats 16000000 in
theorem mul_main (ha : AM w A n xa) (hb : AM w B m xb) (h1 : IsM xa) (h2 : IsM xb) (h3 : rowL xa 0 = xb.length) :
    Calls Try.prog 49 #[.slice A n ca, .slice B m cb] w fun e w' => ∃ A' n' c', e = .returned (.tuple #[.slice A' n' c', .int .i64 (mlE xa xb : Nat)]) ∧ AM w' A' n' (mlL xa xb) ∧ Below w.heap.size w w' := by
  have HA := Lib.hid ha
  have HB := Lib.hid hb
  have H1 := Lib.hid (ha.ism (cap := ca) true (decide_eq_true h1))
  have H2 := Lib.hid (hb.ism (cap := cb) true (decide_eq_true h2))
  have H3 := Lib.hid (ha.cols (cap := ca))
  have hnl := ha.ln
  have hml := hb.ln
  have hn64 : n ≤ 64 := by have := h1.2.1; omega
  have hm64 : m ≤ 64 := by have := h2.2.1; omega
  obtain ⟨d, hd⟩ : ∃ d, rowL xb 0 = d := ⟨_, rfl⟩
  have hd64 : d ≤ 64 := by have := h2.2.2; omega
  have h3' : rowL xa 0 = m := by omega
  have HD := Lib.hid hd
  have HRA : Hid (∀ i, i < n → rowL xa i = m) := fun i hi => by rw [h1.1 i (by omega), h3']
  have HRB : Hid (∀ i, i < m → rowL xb i = d) := fun i hi => by rw [h2.1 i (by omega), hd]
  have HE : Hid (mlE xa xb = if (Sm1 xa ∧ Sm1 xb) ∧ Wt1 xa xb then 0 else 9) := by unfold mlE; rw [if_pos ⟨h1, h2, h3⟩]; exact rfl
  have HNL := Lib.hid hnl
  have HML := Lib.hid hml
  have H9 : Hid (¬ ((Sm1 xa ∧ Sm1 xb) ∧ Wt1 xa xb) → mlE xa xb = 9 ∧ mlL xa xb = []) := fun h => by
    have e : mlE xa xb = 9 := by rw [HE.out, if_neg h]
    exact ⟨e, mlL_no e (by decide)⟩
  have HIA := Lib.hid h1
  have HIB := Lib.hid h2
  rw [h3'] at H3
  clear ha hb h1 h2 h3 h3' hnl hml hd
  go_enter Try.func49, Try.ntmps49
  go_wp2_with fail
  refine H1.out.mono ?_
  rintro e w1 ⟨rfl, rfl⟩
  go_wp2_with fail
  refine H2.out.mono ?_
  rintro e w1 ⟨rfl, rfl⟩
  go_wp2_with fail
  refine H3.out.mono ?_
  rintro e w1 ⟨rfl, rfl⟩
  go_wp2_with fail
  go_loopw [39] (fun k' wr => ∃ k : Nat, k ≤ 2 ∧ k' = .int .i64 k ∧ w = wr ∧ Hid (Sc xa xb k)) (fun k _ => 2 - (intOf k).toNat)
  case atStart => exact ⟨0, Nat.zero_le _, rfl, rfl, fun h => absurd h (Nat.lt_irrefl _), fun h => by omega⟩
  case round =>
    obtain ⟨k, hk, rfl, rfl, HS⟩ := hrel
    by_cases hlt : k < 2
    · go_upto_region 5 with fail
      go_cut [7] from 40 to 41 (fun v wx => ∃ Am nm cm, v = .slice Am nm cm ∧ Hid (AM w Am nm (sel xa xb k)) ∧ Hid (IsM (sel xa xb k)) ∧ nm ≤ 64 ∧ wx = w)
      case first =>
        have hk' : k = 0 ∨ k = 1 := by omega
        rcases hk' with rfl | rfl
        · have hix := ixa0 (.slice A n ca) (.slice B m cb) w
          go_wp2_with fail
          go_meet
          case rel => exact ⟨A, n, ca, rfl, HA, HIA, hn64, rfl⟩
        · have hix := ixa1 (.slice A n ca) (.slice B m cb) w
          go_wp2_with fail
          go_meet
          case rel => exact ⟨B, m, cb, rfl, HB, HIB, hm64, rfl⟩
      case rest =>
        obtain ⟨Am, nm, cm, rfl, HM, HIM, hnm, rfl⟩ := hcut
        have HSS : Hid (Sm1 (sel xa xb k) → Sc xa xb (k + 1)) := fun h => by
          unfold sel at h
          refine ⟨fun _ => ?_, fun h1 => ?_⟩
          · by_cases e : k = 0
            · rw [if_pos e] at h; exact h
            · exact HS.out.1 (by omega)
          · rw [if_neg (by omega)] at h; exact h
        have HNS : Hid (¬ Sm1 (sel xa xb k) → ¬ ((Sm1 xa ∧ Sm1 xb) ∧ Wt1 xa xb)) := fun h h2 => h (by
          unfold sel
          split
          · exact h2.1.1
          · exact h2.1.2)
        generalize sel xa xb k = ms at HM HIM HSS HNS
        go_wp2_with fail
        go_loopw [44] (fun i' wr => ∃ i : Nat, i ≤ nm ∧ i' = .int .i64 i ∧ wc = wr ∧ Hid (∀ x, x < i → ∀ j, j < rowL ms x → (eI ms x j).natAbs ≤ 1125899906842624)) (fun i _ => nm - (intOf i).toNat)
        case atStart => exact ⟨0, Nat.zero_le _, rfl, rfl, fun x hx => by omega⟩
        case round =>
          obtain ⟨i, hi, rfl, rfl, HP⟩ := hrel
          by_cases hlti : i < nm
          · obtain ⟨bm, om, Ak, ck, rfl, c1, hri⟩ := HM.out.head hlti
            have hl64 : rowL ms i ≤ 64 := by rw [HIM.out.1 i (by rw [HM.out.ln]; exact hlti)]; exact HIM.out.2.2
            obtain ⟨l, hl⟩ : ∃ l, rowL ms i = l := ⟨_, rfl⟩
            rw [hl] at c1 hl64
            have HL : Hid ((ms.getD i []).length = l) := hl
            have HRI := Lib.hid hri
            clear hri hl
            go_wp2_with fail
            go_loopw [50] (fun j' wr => ∃ j : Nat, j ≤ l ∧ j' = .int .i64 j ∧ wc = wr ∧ Hid (∀ y, y < j → (eI ms i y).natAbs ≤ 1125899906842624)) (fun j _ => l - (intOf j).toNat)
            case atStart => exact ⟨0, Nat.zero_le _, rfl, rfl, fun x hx => by omega⟩
            case round =>
              obtain ⟨j, hj, rfl, rfl, HPJ⟩ := hrel
              by_cases hltj : j < l
              · obtain ⟨bk, ok, rfl, -, hcj⟩ := HRI.out.at_ (k := j) (by rw [HL.out]; exact hltj)
                have c4 := hcj j (by rw [HL.out]; exact hltj)
                obtain ⟨x, hx⟩ : ∃ x, gi (ms.getD i []) j = x := ⟨_, rfl⟩
                rw [hx] at c4
                have hxe : eI ms i j = x := hx
                have hxb := HM.out.rg i j hlti (by show j < (ms.getD i []).length; rw [HL.out]; exact hltj)
                rw [hxe] at hxb
                obtain ⟨y, hy⟩ : ∃ y, x.natAbs = y := ⟨_, rfl⟩
                have HAB := Lib.hid (abs_any x hxb.1 hxb.2 wc)
                rw [hy] at HAB
                have HXN : Hid ((eI ms i j).natAbs = y) := by rw [hxe]; exact hy
                clear hx hxe hxb hcj hy
                by_cases hbig : 1125899906842624 < y
                · have HF := Lib.hid (H9.out (HNS.out fun h => by
                    have := h i (by rw [HM.out.ln]; exact hlti) j (by show j < (ms.getD i []).length; rw [HL.out]; exact hltj)
                    rw [HXN.out] at this
                    omega))
                  go_wp2_with fail
                  refine HAB.out.mono ?_
                  rintro e w1 ⟨rfl, rfl⟩
                  go_wp2_with fail
                  go_ret2
                  refine ⟨none, 0, 0, by rw [HF.out.1]; rfl, ?_, Below.refl _ _⟩
                  rw [HF.out.2]
                  exact AM.nil0 _
                · have HPJ2 : Hid (∀ y, y < j + 1 → (eI ms i y).natAbs ≤ 1125899906842624) := fun z hz => by
                    by_cases e : z = j
                    · rw [e, HXN.out]; omega
                    · exact HPJ.out z (by omega)
                  clear HPJ
                  go_wp2_with fail
                  refine HAB.out.mono ?_
                  rintro e w1 ⟨rfl, rfl⟩
                  go_wp2_with fail
                  go_roundw
                  case rel => exact ⟨j + 1, by omega, by go_num, by trivial, HPJ2⟩
                  case measure => simp [intOf]; omega
              · obtain rfl : j = l := by omega
                have HP2 : Hid (∀ x, x < i + 1 → ∀ j, j < rowL ms x → (eI ms x j).natAbs ≤ 1125899906842624) := fun x hx z hz => by
                  by_cases e : x = i
                  · subst e
                    exact HPJ.out z (by rw [← HL.out]; exact hz)
                  · exact HP.out x (by omega) z hz
                clear HP HPJ
                go_wp2_with fail
                go_roundw
                case rel => exact ⟨i + 1, by omega, by go_num, by trivial, HP2⟩
                case measure => simp [intOf]; omega
          · obtain rfl : i = nm := by omega
            have HS2 := Lib.hid (HSS.out fun x hx j hj => HP.out x (by rw [HM.out.ln] at hx; exact hx) j hj)
            clear HP HSS HNS HS
            go_wp2_with fail
            go_roundw
            case rel => exact ⟨k + 1, by omega, by go_num, by trivial, HS2⟩
            case measure => simp [intOf]; omega
    · have hk2 : k = 2 := by omega
      have hmk := make_introw n (by omega)
      have H0 : Hid (MuS w w (w.alloc (.cells (List.replicate n (Value.slice none 0 0)).toArray 33)) xa xb n d 0 (fun _ => 0) (fun _ _ => 0)) := MuS.start (Below.refl _ _)
      have HSA := Lib.hid (HS.out.1 (by omega))
      have HSB := Lib.hid (HS.out.2 (by omega))
      clear HS hk2
      go_wp2_with fail
      clear hmk
      rw [show (List.replicate n (Value.slice none 0 0)).toArray = Array.replicate n (Value.slice none 0 0) by simp] at H0
      go_loopw [65] (fun i' wr => ∃ (i : Nat) (bs : Nat → Nat) (a : Nat → Nat → Int), i ≤ n ∧ i' = .int .i64 i ∧ Hid (MuS w w wr xa xb n d i bs a) ∧ Hid (∀ x, x < i → ∀ y, y < d → a x y = prM xa xb x y ∧ wtN xa xb x y m ≤ 1125899906842624)) (fun i _ => n - (intOf i).toNat)
      case atStart => exact ⟨0, _, _, Nat.zero_le _, rfl, H0, fun x hx => by omega⟩
      case round =>
        clear H0
        obtain ⟨i, bs, a, hi, rfl, HU, HP⟩ := hrel
        by_cases hlti : i < n
        · obtain ⟨b1, o1, Ai, ci, rfl, c1, hri⟩ := (HA.out.call HU.out.bel).head hlti
          rw [HRA.out i hlti] at c1
          have HCB := Lib.hid ((HB.out.call HU.out.bel).cols (cap := cb))
          rw [HD.out] at HCB
          have HPU := Lib.hid (HU.out.push hlti)
          obtain ⟨⟨v0, c0⟩, f0⟩ := HU.out.hd i hlti
          have s0 := HU.out.lt
          have hmk := make_ints 33 Try.underlying33 d (by omega)
          have c0' : (wr.alloc (.cells (Array.replicate d (Value.int .i64 0)) 3)).cell? ⟨w.heap.size, i, none⟩ = some v0 := (World.cell?_alloc_lt wr _ ⟨w.heap.size, i, none⟩ s0).trans c0
          have f0' : (wr.alloc (.cells (Array.replicate d (Value.int .i64 0)) 3)).frozen? ⟨w.heap.size, i, none⟩ = false := (World.frozen?_alloc_old wr _ ⟨w.heap.size, i, none⟩ (by simp; omega)).trans f0
          have HRI : Hid (RI w (· < w.heap.size) Ai (xa.getD i [])) := by
            obtain ⟨b2, o2, A2, c2, e2, k2, r2⟩ := HA.out.head hlti
            injection e2 with e2
            injection e2 with e2 e3 _
            subst e2 e3
            have hbl : b1 < w.heap.size := by
              obtain ⟨b3, o3, e3, hb3, -⟩ := HA.out.rd.at_ (k := i) (by rw [HNL.out]; exact hlti)
              injection e3 with e3
              injection e3 with e3 _ _
              rw [e3]; exact hb3
            rw [HU.out.bel.cell (p := ⟨b1, o1 + i, none⟩) hbl, k2] at c1
            injection c1 with c1
            injection c1 with c1 _ _
            rw [← c1]
            exact r2
          have HU2 : Hid (up bs i wr.heap.size i = wr.heap.size) := if_pos rfl
          have HPO : Hid (∀ x, x < i → ∀ y, y < d → up a i (fun _ => 0) x y = prM xa xb x y ∧ wtN xa xb x y m ≤ 1125899906842624) := fun x hx y hy => by
            unfold up
            rw [if_neg (by omega)]
            exact HP.out x hx y hy
          have HZ : Hid (∀ y, up a i (fun _ => 0) i y = 0) := fun y => by unfold up; rw [if_pos rfl]
          clear hri
          go_wp2_with fail
          refine HCB.out.mono ?_
          rintro e w1 ⟨rfl, rfl⟩
          go_wp2_with fail
          generalize up bs i wr.heap.size = bs' at HPU HU2
          generalize up a i (fun _ => 0) = a' at HPU HPO HZ
          rw [show (List.replicate d (Value.int .i64 0)).toArray = Array.replicate d (Value.int .i64 0) by simp, World.setCell_alloc_past _ _ _ _ s0] at HPU
          generalize (wr.setCell ⟨w.heap.size, i, none⟩ (.slice (some ⟨wr.heap.size, 0, none⟩) d d)).alloc (.cells (Array.replicate d (Value.int .i64 0)) 3) = w5 at HPU ⊢
          clear hmk c0' f0' c0 c1 f0 HU HP s0 HCB
          generalize wr.heap.size = gb at HU2 ⊢
          go_loopw [81] (fun k' wr => ∃ (k : Nat) (a2 : Nat → Nat → Int), k ≤ d ∧ k' = .int .i64 k ∧ Hid (MuS w w wr xa xb n d (i + 1) bs' a2) ∧ Hid (∀ x, x < i → ∀ y, y < d → a2 x y = prM xa xb x y ∧ wtN xa xb x y m ≤ 1125899906842624) ∧
            Hid (∀ y, y < k → a2 i y = prM xa xb i y ∧ wtN xa xb i y m ≤ 1125899906842624) ∧ Hid (∀ y, k ≤ y → a2 i y = 0)) (fun k _ => d - (intOf k).toNat)
          case atStart => exact ⟨0, a', Nat.zero_le _, rfl, HPU, HPO, fun y hy => by omega, fun y _ => HZ.out y⟩
          case round =>
            clear HPU HPO HZ
            obtain ⟨k, a2, hk, rfl, HU, HPO, HPK, HZ⟩ := hrel
            by_cases hltk : k < d
            · have HU0 : Hid (MuS w w wr xa xb n d (i + 1) bs' (fun p q => if p = i ∧ q = k then sI 0 (fun j => eI xa i j * eI xb j k) else a2 p q)) := HU.out.congr fun x y hx hy => by
                by_cases e : x = i ∧ y = k
                · rw [if_pos e, e.1, e.2]; exact HZ.out k (Nat.le_refl _)
                · rw [if_neg e]
              clear HU
              go_wp2_with fail
              go_loopw [16, 86] (fun q' t' wr => ∃ t q : Nat, t ≤ m ∧ t' = .int .i64 t ∧ q' = .int .u64 q ∧ Hid (MuS w w wr xa xb n d (i + 1) bs' (fun p q => if p = i ∧ q = k then sI t (fun j => eI xa i j * eI xb j k) else a2 p q)) ∧ Hid (q = wtN xa xb i k t) ∧ q ≤ 1125899906842624) (fun _ t _ => m - (intOf t).toNat)
              case atStart => exact ⟨0, 0, Nat.zero_le _, rfl, rfl, HU0, rfl, Nat.zero_le _⟩
              case round =>
                clear HU0
                obtain ⟨t, q, ht, rfl, rfl, HU, HQ, hq⟩ := hrel
                by_cases hltt : t < m
                · have hbel := HU.out.bel
                  obtain ⟨ba, oa, rfl, -, hca⟩ := (HRI.out.below hbel).at_ (k := t) (by show t < rowL xa i; rw [HRA.out i hlti]; exact hltt)
                  have c1 := hca t (by show t < rowL xa i; rw [HRA.out i hlti]; exact hltt)
                  obtain ⟨b2, o2, At, ct, rfl, c2, hrt⟩ := (HB.out.call hbel).head hltt
                  rw [HRB.out t hltt] at c2
                  obtain ⟨bt, ot, rfl, -, hct⟩ := hrt.at_ (k := k) (by show k < rowL xb t; rw [HRB.out t hltt]; exact hltk)
                  have c3 := hct k (by show k < rowL xb t; rw [HRB.out t hltt]; exact hltk)
                  have c5 := HU.out.mi.hd i (by omega)
                  have c6 := HU.out.mi.en i k (by omega) hltk
                  have f6 := HU.out.mi.fr i k (by omega) hltk
                  rw [if_pos ⟨rfl, rfl⟩] at c6
                  rw [HU2.out] at c5 c6 f6
                  obtain ⟨x, hx⟩ : ∃ x, gi (xa.getD i []) t = x := ⟨_, rfl⟩
                  obtain ⟨y, hy⟩ : ∃ y, gi (xb.getD t []) k = y := ⟨_, rfl⟩
                  obtain ⟨v, hv⟩ : ∃ v, sI t (fun j => eI xa i j * eI xb j k) = v := ⟨_, rfl⟩
                  have hxe : eI xa i t = x := hx
                  have hye : eI xb t k = y := hy
                  rw [hx] at c1
                  rw [hy] at c3
                  rw [hv] at c6
                  have hxl := HSA.out i (by rw [HNL.out]; exact hlti) t (by rw [HRA.out i hlti]; exact hltt)
                  have hyl := HSB.out t (by rw [HML.out]; exact hltt) k (by rw [HRB.out t hltt]; exact hltk)
                  rw [hxe] at hxl
                  rw [hye] at hyl
                  have hvl := pr_le xa xb i k t
                  rw [hv, ← HQ.out] at hvl
                  obtain ⟨X, hX⟩ : ∃ X, x.natAbs = X := ⟨_, rfl⟩
                  obtain ⟨Y, hY⟩ : ∃ Y, y.natAbs = Y := ⟨_, rfl⟩
                  obtain ⟨P, hP⟩ : ∃ P, X * Y = P := ⟨_, rfl⟩
                  obtain ⟨z, hz⟩ : ∃ z, x * y = z := ⟨_, rfl⟩
                  have hzP : z.natAbs = P := by rw [← hz, Int.natAbs_mul, hX, hY, hP]
                  have HWT : Hid (wtN xa xb i k (t + 1) = q + P) := by show wtN xa xb i k t + (eI xa i t).natAbs * (eI xb t k).natAbs = _; rw [← HQ.out, hxe, hye, hX, hY, hP]
                  have HSUM : Hid (sI (t + 1) (fun j => eI xa i j * eI xb j k) = v + z) := by show sI t _ + eI xa i t * eI xb t k = _; rw [hv, hxe, hye, hz]
                  have HMO : Hid (wtN xa xb i k (t + 1) ≤ wtN xa xb i k m) := sN_mono (by omega)
                  have HAX : Hid (∀ w, Calls Try.prog 64 #[.int .i64 x] w fun e w' => e = .returned (.int .u64 (X : Nat)) ∧ w' = w) := fun w => by
                    have := abs_any x (by omega) (by omega) w
                    rw [hX] at this
                    exact this.mono fun _ _ h => ⟨h.1, h.2.symm⟩
                  have HAY : Hid (∀ w, Calls Try.prog 64 #[.int .i64 y] w fun e w' => e = .returned (.int .u64 (Y : Nat)) ∧ w' = w) := fun w => by
                    have := abs_any y (by omega) (by omega) w
                    rw [hY] at this
                    exact this.mono fun _ _ h => ⟨h.1, h.2.symm⟩
                  obtain ⟨hi', hhi⟩ : ∃ h, P / 18446744073709551616 = h := ⟨_, rfl⟩
                  obtain ⟨lo, hlo⟩ : ∃ l, P % 18446744073709551616 = l := ⟨_, rfl⟩
                  have HMU : Hid (∀ w, Calls Try.prog 71 #[.int .u64 X, .int .u64 Y] w fun e w' => e = .returned (.tuple #[.int .u64 (hi' : Nat), .int .u64 (lo : Nat)]) ∧ w' = w) := fun w => by
                    have := mul64_any X Y (by omega) (by omega) w
                    rw [hP, hhi, hlo] at this
                    exact this.mono fun _ _ h => ⟨h.1, h.2.symm⟩
                  have hPd := Nat.div_add_mod P 18446744073709551616
                  rw [hhi, hlo] at hPd
                  have HPD : Hid (18446744073709551616 * hi' + lo = P ∧ lo < 18446744073709551616) := ⟨hPd, by rw [← hlo]; exact Nat.mod_lt _ (by decide)⟩
                  have HZP := Lib.hid hzP
                  have HVL := Lib.hid hvl
                  have HXL := Lib.hid (And.intro hxl hyl)
                  have HXY := Lib.hid hz
                  clear hca hrt hct hx hy hv hxe hye hxl hyl hvl hX hY hP hz hzP hhi hlo hPd hbel
                  go_wp2_with fail
                  go_quiet (first
                    | (with_reducible (show Calls _ _ #[Value.int .i64 x] _ _); exact Calls.quiet_of_same (HAX.out _))
                    | (with_reducible (show Calls _ _ #[Value.int .i64 y] _ _); exact Calls.quiet_of_same (HAY.out _))
                    | exact Calls.quiet_of_same (HMU.out _))
                  have HU8 : Hid (MuS w w (wr.drewN nq) xa xb n d (i + 1) bs' (fun p q => if p = i ∧ q = k then sI t (fun j => eI xa i j * eI xb j k) else a2 p q)) := HU.out.heap rfl rfl rfl rfl
                  replace c1 : (wr.drewN nq).cell? ⟨ba, oa + t, none⟩ = some (.int .i64 x) := c1
                  replace c2 : (wr.drewN nq).cell? ⟨b2, o2 + t, none⟩ = some (.slice (some ⟨bt, ot, none⟩) d ct) := c2
                  replace c3 : (wr.drewN nq).cell? ⟨bt, ot + k, none⟩ = some (.int .i64 y) := c3
                  replace c5 : (wr.drewN nq).cell? ⟨w.heap.size, i, none⟩ = some (.slice (some ⟨gb, 0, none⟩) d d) := c5
                  replace c6 : (wr.drewN nq).cell? ⟨gb, k, none⟩ = some (.int .i64 v) := c6
                  replace f6 : (wr.drewN nq).frozen? ⟨gb, k, none⟩ = false := f6
                  clear HU HAX HAY HMU
                  generalize wr.drewN nq = w8 at HU8 c1 c2 c3 c5 c6 f6 ⊢
                  obtain ⟨g, hg⟩ : ∃ g, 1125899906842624 - q = g := ⟨_, rfl⟩
                  have x1 : IntKind.u64.wrap (1125899906842624 - (q : Int)) = (g : Int) := by rw [show (1125899906842624 : Int) - (q : Int) = (g : Int) by omega]; exact wrapN _ (by omega)
                  by_cases hbig : 1125899906842624 < q + P
                  · have HF := Lib.hid (H9.out (fun h => by
                      have h1 := h.2 i (by rw [HNL.out]; exact hlti) k (by rw [HD.out]; exact hltk)
                      rw [HML.out] at h1
                      have h2 := HMO.out
                      rw [HWT.out] at h2
                      omega))
                    have HB8 := Lib.hid HU8.out.bel
                    by_cases h0 : hi' = 0
                    · subst h0
                      have z1 : decide (g < lo) = true := decide_eq_true (by have := HPD.out; omega)
                      clear hg hbig HU8 HMO HWT HSUM c1 c2 c3 c5 c6 f6
                      go_wp2_with fail
                      go_ret2
                      refine ⟨none, 0, 0, by rw [HF.out.1]; rfl, ?_, HB8.out⟩
                      rw [HF.out.2]
                      exact AM.nil0 _
                    · have z1 : decide (0 < hi') = true := decide_eq_true (by omega)
                      clear hg hbig HU8 HMO HWT HSUM c1 c2 c3 c5 c6 f6
                      go_wp2_with fail
                      go_ret2
                      refine ⟨none, 0, 0, by rw [HF.out.1]; rfl, ?_, HB8.out⟩
                      rw [HF.out.2]
                      exact AM.nil0 _
                  · obtain rfl : hi' = 0 := by have := HPD.out; omega
                    obtain rfl : lo = P := by have := HPD.out; omega
                    have z1 : decide (g < lo) = false := decide_eq_false (by omega)
                    obtain ⟨q2, hq2⟩ : ∃ q2, q + lo = q2 := ⟨_, rfl⟩
                    have x2 : IntKind.u64.wrap ((q : Int) + (lo : Int)) = (q2 : Int) := by rw [addN, hq2]; exact wrapN _ (by omega)
                    obtain ⟨v2, hv2⟩ : ∃ v2, v + z = v2 := ⟨_, rfl⟩
                    have y1 : IntKind.i64.wrap (x * y) = z := by rw [HXY.out]; exact IntWalk.i64_in _ (by have := HZP.out; omega)
                    have y2 : IntKind.i64.wrap (v + z) = v2 := by rw [hv2]; exact IntWalk.i64_in _ (by have := HZP.out; have := HVL.out; omega)
                    have HQ2 : Hid (q2 = wtN xa xb i k (t + 1)) := by rw [HWT.out, hq2]; exact rfl
                    have HU9 : Hid (MuS w w (w8.setCell ⟨gb, k, none⟩ (.int .i64 v2)) xa xb n d (i + 1) bs' (fun p q => if p = i ∧ q = k then sI (t + 1) (fun j => eI xa i j * eI xb j k) else a2 p q)) := by
                      have h1 := HU8.out.store (x := i) (y := k) (by omega) hltk v2
                      rw [HU2.out] at h1
                      refine h1.congr fun p q _ _ => ?_
                      by_cases e : p = i ∧ q = k
                      · rw [if_pos e, if_pos e, HSUM.out, hv2]
                      · rw [if_neg e, if_neg e, if_neg e]
                    have hq2l : q2 ≤ 1125899906842624 := by omega
                    clear hg hbig hq2 hv2 HU8 HMO HWT HSUM HVL HZP HXY HXL HPD HQ
                    go_wp2_with fail
                    go_region
                    all_goals
                      go_wp2_with fail
                      go_roundw
                      case rel => exact ⟨t + 1, q2, by omega, by go_num, rfl, HU9.out.heap rfl rfl rfl rfl, HQ2, hq2l⟩
                      case measure => simp [intOf]; omega
                · obtain rfl : t = m := by omega
                  have HUE : Hid (MuS w w wr xa xb n d (i + 1) bs' (fun p q => if p = i ∧ q = k then prM xa xb i k else a2 p q)) := HU.out.congr fun p q _ _ => by
                    unfold prM
                    rw [HML.out]
                  have HPO2 : Hid (∀ x, x < i → ∀ y, y < d → (if x = i ∧ y = k then prM xa xb i k else a2 x y) = prM xa xb x y ∧ wtN xa xb x y t ≤ 1125899906842624) := fun x hx y hy => by
                    rw [if_neg (by omega)]; exact HPO.out x hx y hy
                  have HPK2 : Hid (∀ y, y < k + 1 → (if i = i ∧ y = k then prM xa xb i k else a2 i y) = prM xa xb i y ∧ wtN xa xb i y t ≤ 1125899906842624) := fun y hy => by
                    by_cases e : y = k
                    · rw [if_pos ⟨rfl, e⟩, e, ← HQ.out]; exact ⟨rfl, hq⟩
                    · rw [if_neg (fun h => e h.2)]; exact HPK.out y (by omega)
                  have HZ2 : Hid (∀ y, k + 1 ≤ y → (if i = i ∧ y = k then prM xa xb i k else a2 i y) = 0) := fun y hy => by
                    rw [if_neg (by omega)]; exact HZ.out y (by omega)
                  clear HU HPO HPK HZ HQ
                  go_wp2_with fail
                  go_roundw
                  case rel => exact ⟨k + 1, _, by omega, by go_num, HUE, HPO2, HPK2, HZ2⟩
                  case measure => simp [intOf]; omega
            · obtain rfl : k = d := by omega
              have HPO2 : Hid (∀ x, x < i + 1 → ∀ y, y < k → a2 x y = prM xa xb x y ∧ wtN xa xb x y m ≤ 1125899906842624) := fun x hx y hy => by
                by_cases e : x = i
                · subst e; exact HPK.out y hy
                · exact HPO.out x (by omega) y hy
              clear HPO HPK HZ
              go_wp2_with fail
              go_roundw
              case rel => exact ⟨i + 1, bs', a2, by omega, by go_num, HU, HPO2⟩
              case measure => simp [intOf]; omega
        · obtain rfl : i = n := by omega
          have HE0 : Hid (mlE xa xb = 0) := by
            rw [HE.out, if_pos]
            · exact rfl
            · refine ⟨⟨HSA.out, HSB.out⟩, fun x hx y hy => ?_⟩
              rw [HML.out]
              exact (HP.out x (by rw [HNL.out] at hx; exact hx) y (by rw [HD.out] at hy; exact hy)).2
          have HAM : Hid (AM wr (some ⟨w.heap.size, 0, none⟩) i (mlL xa xb)) := by
            have e : mlL xa xb = mkL i d (prM xa xb) := by unfold mlL; rw [if_pos HE0.out, HNL.out, HD.out]
            rw [e]
            refine (HU.out.mi.congr fun x y hx hy => (HP.out x hx y hy).1).am HU.out.lt (by unfold maxLen; omega) (by unfold maxLen; omega) fun x y hx hy => ?_
            have h1 := pr_le xa xb x y xb.length
            have h2 := (HP.out x hx y hy).2
            rw [HML.out] at h1
            unfold prM
            rw [HML.out]
            omega
          have HBW := Lib.hid HU.out.bel
          clear HU HP
          go_wp2_with fail
          go_ret2
          exact ⟨_, _, _, by rw [HE0.out]; rfl, HAM.out, HBW.out⟩
theorem mul_any (ha : AM w A n xa) (hb : AM w B m xb) :
    Calls Try.prog 49 #[.slice A n ca, .slice B m cb] w fun e w' => ∃ A' n' c', e = .returned (.tuple #[.slice A' n' c', .int .i64 (mlE xa xb : Nat)]) ∧ AM w' A' n' (mlL xa xb) ∧ Below w.heap.size w w' := by
  by_cases h : IsM xa ∧ IsM xb ∧ rowL xa 0 = xb.length
  · exact mul_main ha hb h.1 h.2.1 h.2.2
  · refine (mul_arg ha hb h).mono ?_
    rintro e w' ⟨rfl, rfl⟩
    have he : mlE xa xb = 1 := by unfold mlE; rw [if_neg h]
    refine ⟨none, 0, 0, by rw [he]; rfl, ?_, Below.refl _ _⟩
    rw [mlL_no he (by decide)]
    exact AM.nil0 _
end
end Go.Proofs.Yteanhbldhaiekaa
