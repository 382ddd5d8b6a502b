/-
  The contract of signature.Congruent.
-/
import Derived.Test.YteanhbldhaiekaaL39
namespace Go.Proofs.Yteanhbldhaiekaa
open Go.RowKit

theorem AM.len0 {w : World} {A : Option Addr} {n : Nat} {xss : List (List Int)} (h : AM w A n xss) {k : Nat} (hk : k < n) : rowL xss k ≤ maxLen := by
  obtain ⟨b, off, e, hb, hc⟩ := h.rd.at_ (k := k) (by rw [h.ln]; exact hk)
  obtain ⟨Ak, ck, -, -, h3⟩ := hc k (by rw [h.ln]; exact hk)
  exact h3
section
variable {w : World} {A : Option Addr} {n cap : Nat} {xss : List (List Int)}
set_option maxHeartbeats 4000000 in
theorem sisMat_any (h : AM w A n xss) : Calls Try.prog 48 #[.slice A n cap] w fun e w' => e = .returned (.bool (decide (IsM xss))) ∧ w = w' := by
  have HX := Lib.hid h
  have HN := Lib.hid h.ln
  have hnl := h.nl
  unfold maxLen at hnl
  clear h
  go_enter Try.func48, Try.ntmps48
  go_wp2_with fail
  go_loopw [7] (fun i' wr => ∃ k : Nat, k ≤ n ∧ i' = .int .i64 k ∧ w = wr ∧ Hid (∀ i, i < k → rowL xss i = rowL xss 0 ∧ rowL xss i ≤ 64)) (fun i _ => n - (intOf i).toNat)
  case atStart => exact ⟨0, Nat.zero_le _, rfl, rfl, fun i hi => by omega⟩
  case round =>
    obtain ⟨k, hk, rfl, rfl, HA⟩ := hrel
    by_cases hlt : k < n
    · obtain ⟨b, off, rfl, -, hc⟩ := HX.out.rd.at_ (k := k) (by rw [HN.out]; exact hlt)
      obtain ⟨A0, c0, c1, -, -⟩ := hc 0 (by rw [HN.out]; omega)
      obtain ⟨Ak, ck, c2, -, hl2⟩ := hc k (by rw [HN.out]; exact hlt)
      rw [Nat.add_zero] at c1
      replace c1 : w.cell? ⟨b, off, none⟩ = some (.slice A0 (rowL xss 0) c0) := c1
      replace c2 : w.cell? ⟨b, off + k, none⟩ = some (.slice Ak (rowL xss k) ck) := c2
      replace hl2 : rowL xss k ≤ maxLen := hl2
      unfold maxLen at hl2
      clear hc
      have hnp : 0 < n := by omega
      by_cases he : rowL xss k = rowL xss 0
      · have he' : ((rowL xss k : Int) != (rowL xss 0 : Int)) = false := by rw [bne_eq_false_iff_eq]; omega
        by_cases h6 : 64 < rowL xss k
        · have HD := Lib.hid (decide_eq_false (show ¬ IsM xss from fun h => by have := h.2.2; omega))
          clear he HA
          go_wp2_with fail
          go_ret
          exact ⟨ret_bool HD.out.symm, rfl⟩
        · have HA' : Hid (∀ i, i < k + 1 → rowL xss i = rowL xss 0 ∧ rowL xss i ≤ 64) := by
            intro i hi
            by_cases e : i = k
            · rw [e]; exact ⟨he, by omega⟩
            · exact HA.out i (by omega)
          clear he HA
          go_wp2_with fail
          go_roundw
          case rel => exact ⟨k + 1, by omega, by go_num, by trivial, HA'⟩
          case measure => simp [intOf]; omega
      · have he' : ((rowL xss k : Int) != (rowL xss 0 : Int)) = true := by rw [bne_iff_ne]; omega
        have HD := Lib.hid (decide_eq_false (show ¬ IsM xss from fun h => he (h.1 k (by rw [HN.out]; exact hlt))))
        go_wp2_with fail
        go_ret
        exact ⟨ret_bool HD.out.symm, rfl⟩
    · obtain rfl : k = n := by omega
      by_cases h64 : k ≤ 64
      · have HD := Lib.hid (decide_eq_true (show IsM xss from ⟨by rw [HN.out]; exact fun i hi => (HA.out i hi).1, by rw [HN.out]; exact h64, by
          rcases Nat.eq_zero_or_pos k with h | h
          · rw [rowL_nil (by rw [HN.out]; exact h)]; omega
          · exact (HA.out 0 h).2⟩))
        go_wp2_with fail
        go_ret
        exact ⟨ret_bool ((decide_eq_true (by omega)).trans HD.out.symm), rfl⟩
      · have HD := Lib.hid (decide_eq_false (show ¬ IsM xss from fun h => h64 (by have := h.2.1; rw [HN.out] at this; exact this)))
        go_wp2_with fail
        go_ret
        exact ⟨ret_bool ((decide_eq_false (by omega)).trans HD.out.symm), rfl⟩
/-- all rows are of one length -/
def EvA (xss : List (List Int)) : Prop := ∀ i, i < xss.length → rowL xss i = rowL xss 0
instance (xss : List (List Int)) : Decidable (EvA xss) := by unfold EvA; infer_instance
set_option maxHeartbeats 4000000 in
theorem leven_any (h : AM w A n xss) : Calls Try.prog 26 #[.slice A n cap] w fun e w' => e = .returned (.bool (decide (EvA xss))) ∧ w = w' := by
  have HX := Lib.hid h
  have HN := Lib.hid h.ln
  have hnl := h.nl
  unfold maxLen at hnl
  clear h
  go_enter Try.func26, Try.ntmps26
  go_wp2_with fail
  go_loopw [7] (fun i' wr => ∃ k : Nat, k ≤ n ∧ i' = .int .i64 k ∧ w = wr ∧ Hid (∀ i, i < k → rowL xss i = rowL xss 0)) (fun i _ => n - (intOf i).toNat)
  case atStart => exact ⟨0, Nat.zero_le _, rfl, rfl, fun i hi => by omega⟩
  case round =>
    obtain ⟨k, hk, rfl, rfl, HA⟩ := hrel
    by_cases hlt : k < n
    · obtain ⟨b, off, rfl, -, hc⟩ := HX.out.rd.at_ (k := k) (by rw [HN.out]; exact hlt)
      obtain ⟨A0, c0, c1, -, -⟩ := hc 0 (by rw [HN.out]; omega)
      obtain ⟨Ak, ck, c2, -, -⟩ := hc k (by rw [HN.out]; exact hlt)
      rw [Nat.add_zero] at c1
      replace c1 : w.cell? ⟨b, off, none⟩ = some (.slice A0 (rowL xss 0) c0) := c1
      replace c2 : w.cell? ⟨b, off + k, none⟩ = some (.slice Ak (rowL xss k) ck) := c2
      clear hc
      have hnp : 0 < n := by omega
      by_cases he : rowL xss k = rowL xss 0
      · have he' : ((rowL xss k : Int) != (rowL xss 0 : Int)) = false := by rw [bne_eq_false_iff_eq]; omega
        have HA' : Hid (∀ i, i < k + 1 → rowL xss i = rowL xss 0) := by
          intro i hi
          by_cases e : i = k
          · rw [e]; exact he
          · exact HA.out i (by omega)
        clear he HA
        go_wp2_with fail
        go_roundw
        case rel => exact ⟨k + 1, by omega, by go_num, by trivial, HA'⟩
        case measure => simp [intOf]; omega
      · have he' : ((rowL xss k : Int) != (rowL xss 0 : Int)) = true := by rw [bne_iff_ne]; omega
        have HD := Lib.hid (decide_eq_false (show ¬ EvA xss from fun h => he (h k (by rw [HN.out]; exact hlt))))
        go_wp2_with fail
        go_ret
        exact ⟨ret_bool HD.out.symm, rfl⟩
    · obtain rfl : k = n := by omega
      have HD := Lib.hid (decide_eq_true (show EvA xss from fun i hi => HA.out i (by rw [HN.out] at hi; exact hi)))
      go_wp2_with fail
      go_ret
      exact ⟨ret_bool HD.out.symm, rfl⟩
end
/-- the transposed matrix in memory: its c rows grow in turn -/
structure TpS (w0 wr : World) (c : Nat) (vs : Nat → Value) (xs : Nat → List Int) : Prop where
  hd : ∀ j, j < c → wr.cell? ⟨w0.heap.size, j, none⟩ = some (vs j)
  fz : ∀ j, j < c → wr.frozen? ⟨w0.heap.size, j, none⟩ = false
  ow : ∀ j, j < c → OI wr (w0.heap.size + 1) (vs j) (xs j)
  dj : ∀ j k g, j < c → k < c → (vs j).ownBlock = some g → (vs k).ownBlock = some g → j = k
  lt : w0.heap.size < wr.heap.size
  bel : Below w0.heap.size w0 wr
section
variable {w0 wr w' : World} {c : Nat} {vs : Nat → Value} {xs : Nat → List Int}
theorem TpS.call (h : TpS w0 wr c vs xs) (hb : Below wr.heap.size wr w') : TpS w0 w' c vs xs := by
  have c : ∀ b o, b < wr.heap.size → w'.cell? ⟨b, o, none⟩ = wr.cell? ⟨b, o, none⟩ := fun b o hbl => World.cell?_of_block (a := ⟨b, o, none⟩) (hb.block b hbl)
  exact ⟨fun x hx => (c _ _ h.lt).trans (h.hd x hx), fun x hx => (World.frozen?_of_block (a := ⟨w0.heap.size, x, none⟩) (hb.block _ h.lt)).trans (h.fz x hx), fun j hj => (h.ow j hj).below hb (Nat.le_refl _), h.dj, Nat.lt_of_lt_of_le h.lt hb.size, h.bel.trans (hb.mono h.bel.size)⟩
theorem TpS.start (w0 : World) (c : Nat) : TpS w0 (w0.alloc (.cells (List.replicate c (Value.slice none 0 0)).toArray 33)) c (fun _ => .slice none 0 0) (fun _ => []) :=
  ⟨fun x hx => (cell_rep hx).1, fun x hx => (cell_rep hx).2, fun j hj => OR.nil _ _, fun j k g hj hk h => by simp [Value.ownBlock] at h, by simp, (Below.refl _ _).alloc (Nat.le_refl _) _⟩
theorem TpS.push {k : Nat} {v' : Value} {ys : List Int} {o : Obj} (h : TpS w0 wr c vs xs) (hk : k < c) (ho : OI w' (w0.heap.size + 1) v' ys) (hg : (wr.alloc o).grownBy w' (vs k).ownBlock) (hob : v'.ownBlock = (vs k).ownBlock ∨ v'.ownBlock = some (wr.heap.size + 1)) :
    TpS w0 (w'.setCell ⟨w0.heap.size, k, none⟩ v') c (up vs k v') (up xs k ys) := by
  have old : ∀ b, b < wr.heap.size → (vs k).ownBlock ≠ some b → w'.heap[b]? = wr.heap[b]? := fun b hb hne => by
    rw [hg.block b (by simp; omega) (fun e => hne e.symm), Below.heap_alloc wr _ b hb]
  have h0 : (vs k).ownBlock ≠ some w0.heap.size := fun e => by have := ((h.ow k hk).lt _ e).1; omega
  have hb0 := old _ h.lt h0
  have hsz : wr.heap.size < w'.heap.size := by have := hg.size; simp at this; omega
  have hc0 : ∀ j, w'.cell? ⟨w0.heap.size, j, none⟩ = wr.cell? ⟨w0.heap.size, j, none⟩ := fun j => World.cell?_of_block (a := ⟨w0.heap.size, j, none⟩) hb0
  refine ⟨fun j hj => ?_, fun j hj => ?_, fun j hj => ?_, fun j l g hj hl e1 e2 => ?_, ?_, ?_⟩
  · unfold up
    by_cases e : j = k
    · subst e
      rw [if_pos rfl]
      exact set_same ((hc0 _).trans (h.hd j hj))
    · rw [if_neg e, set_other (by intro e2; injection e2 with _ e2; exact e e2.symm), hc0]
      exact h.hd j hj
  · rw [World.frozen?_setCell]
    exact (World.frozen?_of_block (a := ⟨w0.heap.size, j, none⟩) hb0).trans (h.fz j hj)
  · have keep : ∀ {v : Value} {zs : List Int}, OI w' (w0.heap.size + 1) v zs → OI (w'.setCell ⟨w0.heap.size, k, none⟩ v') (w0.heap.size + 1) v zs := fun {v zs} ho =>
      ho.keep fun g hgo => Below.heap_setCell _ _ _ _ (by have := (ho.lt g hgo).1; show g ≠ w0.heap.size; omega)
    unfold up
    by_cases e : j = k
    · rw [if_pos e, if_pos e]; exact keep ho
    · rw [if_neg e, if_neg e]
      exact keep ((h.ow j hj).keep fun g hgo => old g ((h.ow j hj).lt g hgo).2 fun e2 => e (h.dj j k g hj hk hgo e2))
  · unfold up at e1 e2
    have far : ∀ l, l < c → l ≠ k → (vs l).ownBlock = some g → v'.ownBlock ≠ some g := fun l hl hne e3 e4 => by
      rcases hob with hob | hob
      · exact hne (h.dj l k g hl hk e3 (hob.symm.trans e4))
      · have := ((h.ow l hl).lt g e3).2
        rw [hob] at e4
        injection e4 with e4
        omega
    by_cases ej : j = k
    · by_cases el : l = k
      · rw [ej, el]
      · rw [if_pos ej] at e1
        rw [if_neg el] at e2
        exact absurd e1 (far l hl el e2)
    · rw [if_neg ej] at e1
      by_cases el : l = k
      · rw [if_pos el] at e2
        exact absurd e2 (far j hj ej e1)
      · rw [if_neg el] at e2
        exact h.dj j l g hj hl e1 e2
  · rw [World.size_setCell]; have := h.lt; omega
  · exact (OR.grown_below ((h.ow k hk).mono (Nat.le_succ _)) h.bel h.bel.size _ hg).setCell (Nat.le_refl _) _
theorem TpS.hd6 {k : Nat} {o : Obj} (h : TpS w0 wr c vs xs) (hk : k < c) (hg : (wr.alloc o).grownBy w' (vs k).ownBlock) : w'.cell? ⟨w0.heap.size, k, none⟩ = some (vs k) ∧ w'.frozen? ⟨w0.heap.size, k, none⟩ = false := by
  have hb0 : w'.heap[w0.heap.size]? = wr.heap[w0.heap.size]? := by
    rw [hg.block _ (by have := h.lt; simp; omega) (fun e => by have := ((h.ow k hk).lt _ e.symm).1; omega), Below.heap_alloc wr _ _ h.lt]
  exact ⟨(World.cell?_of_block (a := ⟨w0.heap.size, k, none⟩) hb0).trans (h.hd k hk), (World.frozen?_of_block (a := ⟨w0.heap.size, k, none⟩) hb0).trans (h.fz k hk)⟩
theorem TpS.congr {ys : Nat → List Int} (h : TpS w0 wr c vs xs) (he : ∀ j, j < c → xs j = ys j) : TpS w0 wr c vs ys := ⟨h.hd, h.fz, fun j hj => by rw [← he j hj]; exact h.ow j hj, h.dj, h.lt, h.bel⟩
/-- the transposed matrix can be handed on -/
theorem TpS.am {xp : List (List Int)} {r : Nat} (h : TpS w0 wr c vs fun j => tcL xp j r) (hc : c ≤ maxLen) (hf : ∀ i j, i < r → j < c → -9223372036854775808 ≤ eI xp i j ∧ eI xp i j ≤ 9223372036854775807) : AM wr (some ⟨w0.heap.size, 0, none⟩) c (trL xp r c) := by
  refine ⟨fun _ => ⟨w0.heap.size, 0, rfl, h.lt, fun k hk => ?_⟩, trL_len _ _ _, hc, fun i j hi hj => ?_⟩
  · rw [trL_len] at hk
    rw [trL_row hk]
    obtain ⟨Ak, ck, e, h1, h2, h3⟩ := (h.ow k hk).reads
    refine ⟨Ak, ck, ?_, h3.imp fun _ hb => hb.2, Nat.le_trans h1 h2⟩
    rw [Nat.zero_add, ← e]
    exact h.hd k hk
  · rw [trL_rowL hi] at hj
    rw [trL_eI hi hj]
    exact hf j i hj hi
end
/-- the transposed of a matrix; what Congruent answers -/
def tpM (xp : List (List Int)) : List (List Int) := trL xp xp.length (rowL xp 0)
def CgA (xm xp : List (List Int)) : Prop := IsM xm ∧ IsM xp ∧ xm.length = xp.length ∧ (0 < xm.length → rowL xm 0 = xm.length ∧ 0 < rowL xp 0)
instance (xm xp : List (List Int)) : Decidable (CgA xm xp) := by unfold CgA; infer_instance
def cgE (xm xp : List (List Int)) : Nat := if CgA xm xp then if mlE (tpM xp) xm = 0 then mlE (mlL (tpM xp) xm) xp else mlE (tpM xp) xm else 1
def cgL (xm xp : List (List Int)) : List (List Int) := if cgE xm xp = 0 then mlL (mlL (tpM xp) xm) xp else []
theorem cgL_no {xm xp : List (List Int)} {e : Nat} (h : cgE xm xp = e) (h0 : e ≠ 0) : cgL xm xp = [] := by unfold cgL; rw [if_neg (by rw [h]; exact h0)]
theorem tpM_nil {xp : List (List Int)} (h : xp.length = 0) : tpM xp = [] := by unfold tpM; rw [rowL_nil h]; rfl
/-- the two products at the end -/
theorem cg_end {xm xp : List (List Int)} {e1 : Nat} (h : CgA xm xp) (h1 : mlE (tpM xp) xm = e1) (h0 : e1 = 0) : cgE xm xp = mlE (mlL (tpM xp) xm) xp ∧ cgL xm xp = mlL (mlL (tpM xp) xm) xp := by
  have e : cgE xm xp = mlE (mlL (tpM xp) xm) xp := by unfold cgE; rw [if_pos h, if_pos (by rw [h1]; exact h0)]
  refine ⟨e, ?_⟩
  unfold cgL
  by_cases hz : cgE xm xp = 0
  · rw [if_pos hz]
  · rw [if_neg hz, mlL_no (e ▸ rfl) hz]
section
variable {w : World} {A B : Option Addr} {n m ca cb : Nat} {xm xp : List (List Int)}
set_option maxRecDepth 100000 in
set_option maxHeartbeats 8000000 in
theorem cong_arg (ha : AM w A n xm) (hb : AM w B m xp) (h : ¬ CgA xm xp) :
    Calls Try.prog 25 #[.slice A n ca, .slice B m cb] w fun e w' => e = .returned (.tuple #[.slice none 0 0, .int .i64 1]) ∧ w = w' := by
  have HM := Lib.hid ha
  have HP := Lib.hid hb
  have HA := Lib.hid h
  have HS1 := Lib.hid (sisMat_any (cap := ca) ha)
  have HS2 := Lib.hid (sisMat_any (cap := cb) hb)
  have hnl := ha.nl
  have hml := hb.nl
  unfold maxLen at hnl hml
  clear ha hb h
  go_enter Try.func25, Try.ntmps25
  go_wp2_with fail
  refine HS1.out.mono ?_
  rintro e w1 ⟨rfl, rfl⟩
  by_cases h1 : IsM xm
  · rw [decide_eq_true h1]
    go_wp2_with fail
    refine HS2.out.mono ?_
    rintro e w1 ⟨rfl, rfl⟩
    by_cases h2 : IsM xp
    · rw [decide_eq_true h2]
      by_cases h3 : n = m
      · subst h3
        have hnp : 0 < n := by
          rcases Nat.eq_zero_or_pos n with h | h
          · refine absurd ?_ HA.out
            exact ⟨h1, h2, by rw [HM.out.ln, HP.out.ln], fun hp => by rw [HM.out.ln] at hp; omega⟩
          · exact h
        obtain ⟨b1, o1, Ai, ci, rfl, c1, -⟩ := HM.out.head hnp
        obtain ⟨b2, o2, Bi, di, rfl, c2, -⟩ := HP.out.head hnp
        rw [Nat.add_zero] at c1 c2
        have hr1 := HM.out.len0 hnp
        have hr2 := HP.out.len0 hnp
        unfold maxLen at hr1 hr2
        have HH : Hid (¬ (rowL xm 0 = n ∧ 0 < rowL xp 0)) := Lib.hid fun hh => HA.out ⟨h1, h2, by rw [HM.out.ln, HP.out.ln], fun _ => by rw [HM.out.ln]; exact hh⟩
        obtain ⟨r1, hr1e⟩ : ∃ r, rowL xm 0 = r := ⟨_, rfl⟩
        obtain ⟨r2, hr2e⟩ : ∃ r, rowL xp 0 = r := ⟨_, rfl⟩
        rw [hr1e] at c1 HH hr1
        rw [hr2e] at c2 HH hr2
        have z0 : ((n : Int) != (n : Int)) = false := by rw [bne_eq_false_iff_eq]
        clear h1 h2 hr1e hr2e HS1 HS2 HA HM HP
        by_cases g1 : r1 = n
        · obtain rfl : r2 = 0 := by
            rcases Nat.eq_zero_or_pos r2 with h | h
            · exact h
            · exact absurd ⟨g1, h⟩ HH.out
          subst g1
          clear HH
          go_wp2_with fail
          go_ret2
          exact ⟨rfl, rfl⟩
        · have z1 : ((r1 : Int) != (n : Int)) = true := by rw [bne_iff_ne]; omega
          clear HH
          go_wp2_with fail
          go_ret2
          exact ⟨rfl, rfl⟩
      · have z1 : ((n : Int) != (m : Int)) = true := by rw [bne_iff_ne]; omega
        clear h1 h2
        go_wp2_with fail
        go_ret2
        exact ⟨rfl, rfl⟩
    · rw [decide_eq_false h2]
      clear h1 h2
      go_wp2_with fail
      go_ret2
      exact ⟨rfl, rfl⟩
  · rw [decide_eq_false h1]
    clear h1
    go_wp2_with fail
    go_ret2
    exact ⟨rfl, rfl⟩
/-- what Congruent answers -/
def CgP (w : World) (xm xp : List (List Int)) (e : Ending) (w' : World) : Prop := ∃ A' n' c', e = .returned (.tuple #[.slice A' n' c', .int .i64 (cgE xm xp : Nat)]) ∧ AM w' A' n' (cgL xm xp) ∧ Below w.heap.size w w'
set_option maxRecDepth 100000 in
set_option maxHeartbeats 8000000 in
theorem cong_0 (ha : AM w A n xm) (hb : AM w B m xp) (h : CgA xm xp) (h0 : n = 0) :
    Calls Try.prog 25 #[.slice A n ca, .slice B m cb] w (CgP w xm xp) := by
  subst h0
  obtain rfl : m = 0 := by have := h.2.2.1; rw [ha.ln, hb.ln] at this; exact this.symm
  have HM := Lib.hid ha
  have HP := Lib.hid hb
  have HA := Lib.hid h
  have HS1 := Lib.hid (sisMat_any (cap := ca) ha)
  have HS2 := Lib.hid (sisMat_any (cap := cb) hb)
  rw [decide_eq_true h.1] at HS1
  rw [decide_eq_true h.2.1] at HS2
  have HT : Hid (tpM xp = []) := Lib.hid (tpM_nil hb.ln)
  have HX1 := Lib.hid (mul_any (A := none) (n := 0) (ca := 0) (cb := ca) (AM.nil0 w) ha)
  rw [← HT.out] at HX1
  clear ha hb h
  go_enter Try.func25, Try.ntmps25
  go_wp2_with fail
  refine HS1.out.mono ?_
  rintro e w1 ⟨rfl, rfl⟩
  go_wp2_with fail
  refine HS2.out.mono ?_
  rintro e w1 ⟨rfl, rfl⟩
  go_wp2_with fail
  refine HX1.out.mono ?_
  rintro e w1 ⟨A1, n1, c1, rfl, hx, hb⟩
  have HX2 := Lib.hid (mul_any (ca := c1) (cb := cb) hx (HP.out.call hb))
  have HB := Lib.hid hb
  have HX := Lib.hid hx
  clear hb hx HS1 HS2 HX1 HP HM
  obtain ⟨e1, he1⟩ : ∃ e1, mlE (tpM xp) xm = e1 := ⟨_, rfl⟩
  have HE1 := Lib.hid he1
  rw [he1]
  clear he1
  by_cases hz : e1 = 0
  · have HE := Lib.hid (cg_end HA.out HE1.out hz)
    subst hz
    go_wp2_with fail
    refine HX2.out.mono ?_
    rintro e w2 ⟨A2, n2, c2, rfl, hy, hb2⟩
    have HY := Lib.hid hy
    have HB2 := Lib.hid (below_cons HB.out hb2)
    clear hy hb2
    go_wp2_with fail
    go_ret2
    exact ⟨_, _, _, by rw [HE.out.1]; rfl, by rw [HE.out.2]; exact HY.out, HB2.out⟩
  · have HE : Hid (cgE xm xp = e1) := Lib.hid (by unfold cgE; rw [if_pos HA.out, HE1.out, if_neg hz])
    have HL := Lib.hid (cgL_no HE.out hz)
    have z1 : ((e1 : Int) != 0) = true := by rw [bne_iff_ne]; omega
    go_wp2_with fail
    go_ret2
    exact ⟨_, _, _, by rw [HE.out]; rfl, by rw [HL.out]; exact AM.nil0 _, HB.out⟩
set_option maxRecDepth 100000 in
set_option maxHeartbeats 16000000 in
theorem cong_1 (ha : AM w A n xm) (hb : AM w B m xp) (h : CgA xm xp) (h0 : 0 < n) :
    Calls Try.prog 25 #[.slice A n ca, .slice B m cb] w (CgP w xm xp) := by
  obtain rfl : m = n := by have := h.2.2.1; rw [ha.ln, hb.ln] at this; exact this.symm
  have HM := Lib.hid ha
  have HP := Lib.hid hb
  have HA := Lib.hid h
  have hn64 : m ≤ 64 := by have := h.1.2.1; rw [ha.ln] at this; exact this
  have HS1 := Lib.hid (sisMat_any (cap := ca) ha)
  have HS2 := Lib.hid (sisMat_any (cap := cb) hb)
  rw [decide_eq_true h.1] at HS1
  rw [decide_eq_true h.2.1] at HS2
  obtain ⟨b1, o1, Ai, ci, rfl, c1, -⟩ := ha.head h0
  obtain ⟨b2, o2, Bi, di, rfl, c2, -⟩ := hb.head h0
  rw [Nat.add_zero] at c1 c2
  have hr := h.2.2.2 (by rw [ha.ln]; exact h0)
  rw [ha.ln] at hr
  have hc64 : rowL xp 0 ≤ 64 := h.2.1.2.2
  obtain ⟨c, hc⟩ : ∃ c, rowL xp 0 = c := ⟨_, rfl⟩
  rw [hr.1] at c1
  rw [hc] at c2 hr hc64
  have hcp := hr.2
  have HROW : Hid (∀ i, i < m → rowL xp i = c) := Lib.hid fun i hi => by rw [h.2.1.1 i (by rw [hb.ln]; exact hi), hc]
  have HT : Hid (tpM xp = trL xp m c) := Lib.hid (by unfold tpM; rw [hb.ln, hc])
  have hmk := make_introw c (by omega) w
  have H0 := Lib.hid (TpS.start w c)
  have z0 : ((m : Int) != (m : Int)) = false := by rw [bne_eq_false_iff_eq]
  have z1 : ((c : Int) == 0) = false := by rw [beq_eq_false_iff_ne]; omega
  clear ha hb h hr hc
  go_enter Try.func25, Try.ntmps25
  go_wp2_with fail
  refine HS1.out.mono ?_
  rintro e w1 ⟨rfl, rfl⟩
  go_wp2_with fail
  refine HS2.out.mono ?_
  rintro e w1 ⟨rfl, rfl⟩
  go_wp2_with fail
  clear hmk HS1 HS2 z0 z1 c1 c2
  go_loopw [57] (fun i' wr => ∃ (i : Nat) (vs : Nat → Value), i ≤ m ∧ i' = .int .i64 i ∧ Hid (TpS w wr c vs fun j => tcL xp j i)) (fun i _ => m - (intOf i).toNat)
  case atStart => exact ⟨0, _, Nat.zero_le _, rfl, H0⟩
  case round =>
    clear H0
    obtain ⟨i, vs, hi, rfl, HU⟩ := hrel
    by_cases hlti : i < m
    · have HU0 : Hid (TpS w wr c vs fun j => tcL xp j (if j < 0 then i + 1 else i)) := Lib.hid (HU.out.congr fun j _ => rfl)
      obtain ⟨b3, o3, Ci, ei, e3, c3w, hri⟩ := HP.out.head hlti
      injection e3 with e3
      injection e3 with e3 e4 _
      subst e3 e4
      rw [HROW.out i hlti] at c3w
      have c3 := (World.cell?_of_block (a := ⟨b2, o2 + i, none⟩) (HU.out.bel.block _ (World.block_lt_of_cell? _ _ c3w))).trans c3w
      have HRI := Lib.hid hri
      clear c3w
      clear HU hri
      go_wp2_with fail
      clear c3
      go_loopw [63] (fun k' wq => ∃ (k : Nat) (vs : Nat → Value), k ≤ c ∧ k' = .int .i64 k ∧ Hid (TpS w wq c vs fun j => tcL xp j (if j < k then i + 1 else i))) (fun k _ => c - (intOf k).toNat)
      case atStart => exact ⟨0, _, Nat.zero_le _, rfl, HU0⟩
      case round =>
        clear HU0
        obtain ⟨k, us, hk, rfl, HU⟩ := hrel
        by_cases hltk : k < c
        · have hri := (HRI.out.below HU.out.bel)
          obtain ⟨b4, o4, rfl, hb4, hc4⟩ := hri.at_ (k := k) (by have := HROW.out i hlti; unfold rowL at this; omega)
          have c4 := hc4 k (by have := HROW.out i hlti; unfold rowL at this; omega)
          obtain ⟨x, hx⟩ : ∃ x, gi (xp.getD i []) k = x := ⟨_, rfl⟩
          have hxe : eI xp i k = x := hx
          rw [hx] at c4
          obtain ⟨v, hv⟩ : ∃ v, us k = v := ⟨_, rfl⟩
          have c5 := HU.out.hd k hltk
          have f5 := HU.out.fz k hltk
          have s5 := HU.out.lt
          have HO := Lib.hid (HU.out.ow k hltk)
          rw [if_neg (Nat.lt_irrefl k)] at HO
          rw [hv] at c5 HO
          obtain ⟨A5, k5, hv5, -, -, -⟩ := HO.out.shape
          rw [tcL_len] at hv5
          subst hv5
          have HLN : Hid ((tcL xp k i).length < 1099511627776) := Lib.hid (by rw [tcL_len]; omega)
          have HXS : Hid (tcL xp k i ++ [x] = tcL xp k (i + 1)) := Lib.hid (by rw [tcL_succ, hxe])
          obtain ⟨xs, hxs⟩ : ∃ xs, tcL xp k i = xs := ⟨_, rfl⟩
          rw [hxs] at HO HLN HXS
          have HSZ : Hid (w.heap.size + 1 ≤ wr.heap.size) := Lib.hid s5
          have HV := Lib.hid hv
          clear hri hc4 hx hxe hxs hv
          go_wp2_with (at_builtin; refine app1 HO.out HLN.out HSZ.out rfl rfl Try.underlying33 rfl rfl ?_; intro v6 w6 ho6 hg6 hob6; rw [← HV.out] at hg6 hob6; obtain ⟨c6, f6⟩ := HU.out.hd6 hltk hg6; have hp6 := Lib.hid (HU.out.push hltk ho6 hg6 hob6); rw [HV.out] at c6; obtain ⟨A6, k6, hv6, -, -, -⟩ := ho6.shape; clear ho6 hg6 hob6; (generalize List.length _ = n6 at hv6); subst hv6)
          rw [HXS.out] at hp6
          have HP6 : Hid (TpS w (w6.setCell ⟨w.heap.size, k, none⟩ (.slice A6 n6 k6)) c (up us k (.slice A6 n6 k6)) fun j => tcL xp j (if j < k + 1 then i + 1 else i)) := Lib.hid (hp6.out.congr fun j hj => by
            unfold up
            by_cases e : j = k
            · subst e; rw [if_pos rfl, if_pos (Nat.lt_succ_self _)]
            · rw [if_neg e]
              show tcL xp j (if j < k then i + 1 else i) = _
              by_cases h2 : j < k
              · rw [if_pos h2, if_pos (by omega)]
              · rw [if_neg h2, if_neg (by omega)])
          clear hp6 c4 c5 f5 s5 hb4 HU HXS HLN HO HSZ HV c6 f6
          go_roundw
          case rel => exact ⟨k + 1, _, by omega, by go_num, HP6⟩
          case measure => simp [intOf]; omega
        · obtain rfl : k = c := by omega
          have HN : Hid (TpS w wr k us fun j => tcL xp j (i + 1)) := Lib.hid (HU.out.congr fun j hj => by rw [if_pos hj])
          go_wp2_with fail
          go_roundw
          case rel => exact ⟨i + 1, us, by omega, by go_num, HN⟩
          case measure => simp [intOf]; omega
    · obtain rfl : i = m := by omega
      have ham := HU.out.am (by unfold maxLen; omega) fun a b ha hb => HP.out.rg a b ha (by rw [HROW.out a ha]; exact hb)
      rw [← HT.out] at ham
      have HX1 := Lib.hid (mul_any (ca := c) (cb := ca) ham (HM.out.call HU.out.bel))
      have HBW := Lib.hid HU.out.bel
      clear HU ham
      go_wp2_with fail
      refine HX1.out.mono ?_
      rintro e w1 ⟨A1, n1, c1, rfl, hx, hb⟩
      have HB := Lib.hid (below_cons HBW.out hb)
      have HX2 := Lib.hid (mul_any (ca := c1) (cb := cb) hx (HP.out.call HB.out))
      clear hb hx HX1 HP HM
      obtain ⟨e1, he1⟩ : ∃ e1, mlE (tpM xp) xm = e1 := ⟨_, rfl⟩
      have HE1 := Lib.hid he1
      rw [he1]
      clear he1
      by_cases hz : e1 = 0
      · have HE := Lib.hid (cg_end HA.out HE1.out hz)
        subst hz
        go_wp2_with fail
        refine HX2.out.mono ?_
        rintro e w2 ⟨A2, n2, c2, rfl, hy, hb2⟩
        have HY := Lib.hid hy
        have HB2 := Lib.hid (below_cons HB.out hb2)
        clear hy hb2
        go_wp2_with fail
        go_ret2
        exact ⟨_, _, _, by rw [HE.out.1]; rfl, by rw [HE.out.2]; exact HY.out, HB2.out⟩
      · have HE : Hid (cgE xm xp = e1) := Lib.hid (by unfold cgE; rw [if_pos HA.out, HE1.out, if_neg hz])
        have HL := Lib.hid (cgL_no HE.out hz)
        have z1 : ((e1 : Int) != 0) = true := by rw [bne_iff_ne]; omega
        go_wp2_with fail
        go_ret2
        exact ⟨_, _, _, by rw [HE.out]; rfl, by rw [HL.out]; exact AM.nil0 _, HB.out⟩
theorem cong_any (ha : AM w A n xm) (hb : AM w B m xp) : Calls Try.prog 25 #[.slice A n ca, .slice B m cb] w (CgP w xm xp) := by
  by_cases h : CgA xm xp
  · rcases Nat.eq_zero_or_pos n with h0 | h0
    · exact cong_0 ha hb h h0
    · exact cong_1 ha hb h h0
  · refine (cong_arg ha hb h).mono ?_
    rintro e w' ⟨rfl, rfl⟩
    have he : cgE xm xp = 1 := by unfold cgE; rw [if_neg h]
    exact ⟨none, 0, 0, by rw [he]; rfl, by rw [cgL_no he (by decide)]; exact AM.nil0 _, Below.refl _ _⟩
end
end Go.Proofs.Yteanhbldhaiekaa

