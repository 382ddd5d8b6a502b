/-
  A fresh row of fresh rows of integers: what a result of type [][]int is.
  The contract of the reference's Transpose; matrices out of fresh rows.
-/
import Derived.Test.YteanhbldhaiekaaZ01
import Derived.Test.YteanhbldhaiekaaZ24
namespace Go.Proofs.Yteanhbldhaiekaa
open Go.RowKit

theorem row_info : (Try.prog.info? 33).map (fun i => (i.zero, i.size, i.bytes)) = some (some (.slice none 0 0), 1, 24) := by kernel_rfl

/-- two fresh rows of different element types share no block -/
theorem OR.apart {α β : Type} {e e' : TypeId} {f : α → Value} {f' : β → Value} {w : World} {B B' : Nat} {v v' : Value} {xs : List α} {ys : List β} (h : OR e f w B v xs) (h' : OR e' f' w B' v' ys) (hne : e ≠ e') {g : Nat}
    (hg : v.ownBlock = some g) : v'.ownBlock ≠ some g := by
  intro hg'
  rcases h.2 with ⟨rfl, _⟩ | ⟨k, c, cur, rfl, _, hh, _⟩
  · simp [Value.ownBlock] at hg
  rcases h'.2 with ⟨rfl, _⟩ | ⟨k', c', cur', rfl, _, hh', _⟩
  · simp [Value.ownBlock] at hg'
  simp [Value.ownBlock] at hg hg'
  subst hg
  subst hg'
  rw [hh] at hh'
  injection hh' with hh'
  injection hh' with _ ht
  exact hne ht

/-- 'v' is a fresh row (its blocks from N on, none of F) of element type eo, of fresh rows 'vs' of integers -/
def RRv (eo : TypeId) (w : World) (N : Nat) (F : Nat → Prop) (v : Value) (vs : List Value) (xss : List (List Int)) : Prop :=
  OR eo id w N v vs ∧ (∀ g, v.ownBlock = some g → ¬ F g) ∧ vs.length = xss.length ∧
    ∀ k (h : k < vs.length), OI w N vs[k] (xss.getD k []) ∧ ∀ g, vs[k].ownBlock = some g → ¬ F g
def RR (eo : TypeId) (w : World) (N : Nat) (F : Nat → Prop) (v : Value) (xss : List (List Int)) : Prop := ∃ vs : List Value, RRv eo w N F v vs xss

section
variable {eo : TypeId} {w w' : World} {N : Nat} {F : Nat → Prop} {v : Value} {xss : List (List Int)}
theorem RR.nil (w : World) (N : Nat) (F : Nat → Prop) : RR eo w N F (.slice none 0 0) [] :=
  ⟨[], OR.nil _ _, by simp [Value.ownBlock], rfl, by simp⟩
theorem RR.keep (h : RR eo w N F v xss) (hk : ∀ b, N ≤ b → b < w.heap.size → ¬ F b → w'.heap[b]? = w.heap[b]?) : RR eo w' N F v xss := by
  obtain ⟨vs, h1, h2, h3, h4⟩ := h
  refine ⟨vs, h1.keep fun g hg => ?_, h2, h3, fun k hkl => ⟨(h4 k hkl).1.keep fun g hg => ?_, (h4 k hkl).2⟩⟩
  · have := h1.lt g hg
    exact hk g this.1 this.2 (h2 g hg)
  · have := (h4 k hkl).1.lt g hg
    exact hk g this.1 this.2 ((h4 k hkl).2 g hg)
theorem RR.imp {F' : Nat → Prop} (h : RR eo w N F v xss) (hF : ∀ b, N ≤ b → b < w.heap.size → F' b → F b) : RR eo w N F' v xss := by
  obtain ⟨vs, h1, h2, h3, h4⟩ := h
  refine ⟨vs, h1, fun g hg hF' => ?_, h3, fun k hkl => ⟨(h4 k hkl).1, fun g hg hF' => ?_⟩⟩
  · have := h1.lt g hg
    exact h2 g hg (hF g this.1 this.2 hF')
  · have := (h4 k hkl).1.lt g hg
    exact (h4 k hkl).2 g hg (hF g this.1 this.2 hF')
theorem RR.mono {N' : Nat} (h : RR eo w N F v xss) (hN : N' ≤ N) : RR eo w N' F v xss := by
  obtain ⟨vs, h1, h2, h3, h4⟩ := h
  exact ⟨vs, h1.mono hN, h2, h3, fun k hkl => ⟨(h4 k hkl).1.mono hN, (h4 k hkl).2⟩⟩
theorem RR.below {C : Nat} (h : RR eo w N F v xss) (hb : Below C w w') (hC : w.heap.size ≤ C) : RR eo w' N F v xss :=
  h.keep fun b _ h2 _ => hb.block b (by omega)
theorem RR.shape (h : RR eo w N F v xss) : ∃ A c, v = .slice A xss.length c ∧ xss.length ≤ c ∧ c ≤ maxLen ∧ (xss ≠ [] → ∃ g, A = some ⟨g, 0, none⟩) := by
  obtain ⟨vs, h1, h2, h3, h4⟩ := h
  obtain ⟨A, c, e, ha, hb, hc⟩ := h1.shape
  rw [h3] at e ha
  refine ⟨A, c, e, ha, hb, fun hne => hc (by intro e0; subst e0; exact hne (List.eq_nil_of_length_eq_zero h3.symm))⟩
theorem RR.at_ (h : RR eo w N F v xss) {k : Nat} (hk : k < xss.length) : ∃ g c A c', v = .slice (some ⟨g, 0, none⟩) xss.length c ∧ N ≤ g ∧ g < w.heap.size ∧
    w.cell? ⟨g, k, none⟩ = some (.slice A (xss.getD k []).length c') ∧ RI w (fun b => N ≤ b ∧ b < w.heap.size) A (xss.getD k []) ∧ (xss.getD k []).length ≤ maxLen := by
  obtain ⟨vs, h1, h2, h3, h4⟩ := h
  obtain ⟨g, c, e, hg1, hg2, _, _, hcell, _⟩ := h1.block (by omega)
  have h5 := (h4 k (by omega)).1
  obtain ⟨A, c', e', hl1, hl2, hr⟩ := h5.reads
  refine ⟨g, c, A, c', by rw [e, h3], hg1, hg2, ?_, hr, h5.len⟩
  rw [hcell k (by omega), id, e']

theorem RRv.push {u v' : Value} {x : List Int} {vs : List Value} (heo : eo ≠ 3) (h : RRv eo w N F v vs xss) (hu : OI w N u x) (huF : ∀ g, u.ownBlock = some g → ¬ F g) (hF : ∀ b, F b → b < w.heap.size)
    (hrow : OR eo id w' N v' (vs ++ [u])) (hg : (w.alloc (.cells #[u] eo)).grownBy w' v.ownBlock) (hv : v'.ownBlock = v.ownBlock ∨ v'.ownBlock = some (w.heap.size + 1)) :
    RRv eo w' N F v' (vs ++ [u]) (xss ++ [x]) := by
  obtain ⟨h1, h2, h3, h4⟩ := h
  have keep : ∀ {y : Value} {z : List Int}, OI w N y z → OI w' N y z := fun {y z} hy => hy.keep fun g hgy => by
    have hlt := (hy.lt g hgy).2
    have hne := OR.apart hy h1 (fun e => heo e.symm) hgy
    rw [hg.block g (by simp; omega) (fun e => hne e.symm), Below.heap_alloc w _ g hlt]
  refine ⟨hrow, fun g hgv => ?_, by simp [h3], fun k hk => ?_⟩
  · rcases hv with e | e
    · exact h2 g (by rw [← e]; exact hgv)
    · rw [e] at hgv
      injection hgv with hgv
      subst hgv
      intro hf
      have := hF _ hf
      omega
  · rcases Nat.lt_or_ge k vs.length with hlt | hge
    · have := h4 k hlt
      rw [List.getElem_append_left hlt]
      refine ⟨?_, this.2⟩
      have e : (xss ++ [x]).getD k [] = xss.getD k [] := by
        rw [List.getD_eq_getElem?_getD, List.getD_eq_getElem?_getD, List.getElem?_append_left (by omega)]
      rw [e]
      exact keep this.1
    · have hk' : k = vs.length := by simp at hk; omega
      subst hk'
      have e : (xss ++ [x]).getD vs.length [] = x := by simp [h3]
      rw [e]
      have e2 : (vs ++ [u])[vs.length] = u := by simp
      rw [e2]
      exact ⟨keep hu, huF⟩
end

end Go.Proofs.Yteanhbldhaiekaa
namespace Go.Proofs.Yteanhbldhaiekaa
open Go.RowKit

theorem RR.reads {eo : TypeId} {w : World} {N : Nat} {F : Nat → Prop} {v : Value} {xss : List (List Int)} (h : RR eo w N F v xss) : ∃ A c, v = .slice A xss.length c ∧ RL w (fun b => N ≤ b ∧ b < w.heap.size) A xss := by
  obtain ⟨A, c, rfl, -, -, -⟩ := h.shape
  refine ⟨A, c, rfl, fun hne => ?_⟩
  have hpos : 0 < xss.length := by
    rcases Nat.eq_zero_or_pos xss.length with h0 | h0
    · exact absurd (List.eq_nil_of_length_eq_zero h0) hne
    · exact h0
  obtain ⟨g, c0, A0, c0', hv, hg1, hg2, -⟩ := h.at_ hpos
  injection hv with e1 _ _
  refine ⟨g, 0, e1, ⟨hg1, hg2⟩, fun k hk => ?_⟩
  obtain ⟨g', c1, Ak, ck, hv', -, -, h1, h2, h3⟩ := h.at_ hk
  injection hv' with e1' _ _
  rw [e1] at e1'
  injection e1' with e1'
  injection e1' with e1'
  subst e1'
  exact ⟨Ak, ck, by rw [Nat.zero_add]; exact h1, h2, h3⟩
/-- a fresh matrix can be handed on -/
theorem RR.am {eo : TypeId} {w : World} {N : Nat} {F : Nat → Prop} {v : Value} {xss : List (List Int)} (h : RR eo w N F v xss) (hb : ∀ i j, i < xss.length → j < rowL xss i → -9223372036854775808 ≤ eI xss i j ∧ eI xss i j ≤ 9223372036854775807) :
    ∃ A c, v = .slice A xss.length c ∧ AM w A xss.length xss := by
  obtain ⟨A, c, rfl, hr⟩ := h.reads
  obtain ⟨A', c', e, h1, h2, -⟩ := h.shape
  exact ⟨A, c, rfl, hr.imp fun _ h => h.2, rfl, Nat.le_trans h1 h2, hb⟩
/-- a column; the transposed matrix -/
def tcL (xss : List (List Int)) (k n : Nat) : List Int := (List.range n).map fun i => eI xss i k
def trL (xss : List (List Int)) (n c : Nat) : List (List Int) := (List.range c).map fun k => tcL xss k n
theorem tcL_len (xss : List (List Int)) (k n : Nat) : (tcL xss k n).length = n := by simp [tcL]
theorem trL_len (xss : List (List Int)) (n c : Nat) : (trL xss n c).length = c := by simp [trL]
theorem tcL_succ (xss : List (List Int)) (k n : Nat) : tcL xss k (n + 1) = tcL xss k n ++ [eI xss n k] := by simp [tcL, List.range_succ]
theorem trL_succ (xss : List (List Int)) (n c : Nat) : trL xss n (c + 1) = trL xss n c ++ [tcL xss c n] := by simp [trL, List.range_succ]
theorem trL_row {xss : List (List Int)} {n c i : Nat} (hi : i < c) : (trL xss n c).getD i [] = tcL xss i n := by simp [trL, hi]
theorem trL_rowL {xss : List (List Int)} {n c i : Nat} (hi : i < c) : rowL (trL xss n c) i = n := by unfold rowL; rw [trL_row hi, tcL_len]
theorem trL_eI {xss : List (List Int)} {n c i j : Nat} (hi : i < c) (hj : j < n) : eI (trL xss n c) i j = eI xss j i := by
  have e : eI (trL xss n c) i j = gi (tcL xss i n) j := by unfold eI; rw [trL_row hi]
  rw [e, gi_lt (by rw [tcL_len]; exact hj)]
  simp [tcL]
theorem trL_IsM {xss : List (List Int)} {n c : Nat} (hn : n ≤ 64) (hc : c ≤ 64) : IsM (trL xss n c) := by
  refine ⟨fun i hi => ?_, by rw [trL_len]; exact hc, ?_⟩
  · rw [trL_len] at hi
    rw [trL_rowL hi, trL_rowL (by omega)]
  · rcases Nat.eq_zero_or_pos c with h | h
    · rw [rowL_nil (by rw [trL_len]; exact h)]; omega
    · rw [trL_rowL h]; exact hn
set_option maxHeartbeats 4000000 in
theorem rtr_any {w : World} {A : Option Addr} {n cap c : Nat} {xss : List (List Int)} (h : AM w A n xss) (hm : IsM xss) (hc : rowL xss 0 = c) :
    Calls Try.prog 28 #[.slice A n cap, .int .i64 c] w fun e w' => ∃ V, e = .returned V ∧ RR 33 w' w.heap.size (fun _ => False) V (trL xss n c) ∧ Below w.heap.size w w' := by
  have HX := Lib.hid h
  have hn64 : n ≤ 64 := by have := hm.2.1; have := h.ln; omega
  have hc64 : c ≤ 64 := by have := hm.2.2; omega
  have HRC : Hid (∀ i, i < n → rowL xss i = c) := fun i hi => by rw [hm.1 i (by rw [h.ln]; exact hi), hc]
  clear h hm hc
  go_enter Try.func28, Try.ntmps28
  go_wp2_with fail
  go_loopw [5, 6] (fun v k' wr => ∃ k : Nat, k ≤ c ∧ k' = .int .i64 k ∧ Hid (RR 33 wr w.heap.size (fun _ => False) v (trL xss n k)) ∧ Hid (Below w.heap.size w wr)) (fun _ k _ => c - (intOf k).toNat)
  case atStart => exact ⟨0, Nat.zero_le _, rfl, RR.nil _ _ _, Below.refl _ _⟩
  case round =>
    obtain ⟨k, hk, rfl, HR, HB⟩ := hrel
    by_cases hlt : k < c
    · go_wp2_with fail
      obtain ⟨w2, rfl⟩ : ∃ x : World, x = wr := ⟨_, rfl⟩
      have hs2 := HB.out.size
      go_loopw [7, 8] (fun v i wr => ∃ i' : Nat, i' ≤ n ∧ i = .int .i64 i' ∧ Hid (OI wr w2.heap.size v (tcL xss k i')) ∧ Hid (Below w2.heap.size w2 wr)) (fun _ i _ => n - (intOf i).toNat)
      case atStart => exact ⟨0, Nat.zero_le _, rfl, OR.nil _ _, Below.refl _ _⟩
      case round =>
        obtain ⟨i, hi, rfl, HO, HC⟩ := hrel
        by_cases hlti : i < n
        · have hx := HX.out.call (HB.out.trans (HC.out.mono hs2))
          obtain ⟨b, off, Ak, ck, rfl, c1, hri⟩ := hx.head hlti
          rw [HRC.out i hlti] at c1
          obtain ⟨bk, ok, rfl, -, hcj⟩ := hri.at_ (k := k) (by show k < rowL xss i; rw [HRC.out i hlti]; exact hlt)
          have c2 := hcj k (by show k < rowL xss i; rw [HRC.out i hlti]; exact hlt)
          obtain ⟨x, hx'⟩ : ∃ x, gi (xss.getD i []) k = x := ⟨_, rfl⟩
          rw [hx'] at c2
          have HXE : Hid (eI xss i k = x) := hx'
          have HL : Hid ((tcL xss k i).length < 1099511627776) := by rw [tcL_len]; show i < _; omega
          have hsz := HC.out.size
          clear hx hri hcj hx'
          go_wp2_with (at_builtin; refine app1 HO.out HL.out hsz rfl rfl Try.underlying33 rfl rfl ?_; intro v' w' ho hg hob)
          have hbn' := HO.out.grown_below HC.out hsz _ hg
          have HO' : Hid (OI w' w2.heap.size v' (tcL xss k (i + 1))) := by
            rw [tcL_succ, HXE.out]; exact ho
          go_roundw
          case rel => exact ⟨i + 1, by omega, by go_num, HO', hbn'⟩
          case measure => simp [intOf]; omega
        · obtain rfl : i = n := by omega
          obtain ⟨Au, cu, rfl, -, -, -⟩ := HO.out.shape
          obtain ⟨vs, hvs⟩ := (HR.out.below HC.out (Nat.le_refl _))
          have HV := Lib.hid hvs
          have hvl : vs.length < 1099511627776 := by have := hvs.2.2.1; rw [trL_len] at this; omega
          have HVL := Lib.hid hvl
          have HBW := Lib.hid (HB.out.trans (HC.out.mono hs2))
          have hszw := HBW.out.size
          clear hvs hvl
          go_wp2_with (at_builtin; refine app_row (f := id) (y := Value.slice Au (tcL xss k i).length cu) row_info rfl (by decide) rfl HV.out.1 HVL.out hszw rfl rfl Try.underlying22 rfl rfl ?_; intro v' w' ho hg hob)
          have hR := RRv.push (by decide) HV.out (HO.out.mono hs2) (fun _ _ h => h) (fun b hF => hF.elim) ho hg hob
          have HBN := Lib.hid (HV.out.1.grown_below HBW.out hszw _ hg)
          have HR2 : Hid (RR 33 w' w.heap.size (fun _ => False) v' (trL xss i (k + 1))) := by
            rw [trL_succ]; exact ⟨_, hR⟩
          clear ho hg hob hR
          go_roundw
          case rel => exact ⟨k + 1, by omega, by go_num, HR2, HBN⟩
          case measure => simp [intOf]; omega
    · obtain rfl : k = c := by omega
      go_wp2_with fail
      go_ret
      exact ⟨_, rfl, HR.out, HB.out⟩
theorem RI.call {w w' : World} {A : Option Addr} {xs : List Int} (h : RI w (· < w.heap.size) A xs) (hb : Below w.heap.size w w') : RI w' (· < w'.heap.size) A xs :=
  (h.below hb).imp fun _ hl => Nat.lt_of_lt_of_le hl hb.size
theorem rtr_am {w : World} {A : Option Addr} {n cap c : Nat} {xss : List (List Int)} (h : AM w A n xss) (hm : IsM xss) (hc : rowL xss 0 = c) :
    Calls Try.prog 28 #[.slice A n cap, .int .i64 c] w fun e w' => ∃ A' c', e = .returned (.slice A' c c') ∧ AM w' A' c (trL xss n c) ∧ Below w.heap.size w w' := by
  refine (rtr_any h hm hc).mono ?_
  rintro e w' ⟨V, rfl, hV, hb⟩
  obtain ⟨A', c', rfl, ha⟩ := hV.am (fun i j hi hj => by
    rw [trL_len] at hi
    rw [trL_rowL hi] at hj
    rw [trL_eI hi hj]
    exact h.rg j i hj (by rw [hm.1 j (by rw [h.ln]; exact hj), hc]; exact hi))
  rw [trL_len] at ha ⊢
  exact ⟨A', c', rfl, ha, hb⟩
theorem trD {xss : List (List Int)} {d : Nat → Nat} {n c : Nat} (h : SmD xss d) (hn : xss.length = n) (hc : rowL xss 0 = c) (h0 : 0 < c) : SmD (trL xss n c) d := by
  have h1 := h.eq
  have h2 := h.ch
  rw [hn, hc] at h1 h2
  refine ⟨?_, ?_⟩
  · rw [trL_len, trL_rowL h0]
    refine ((Eqv.of fun i j hi hj => ?_).trans h1.tr).cong fun i j _ _ => ?_
    · exact (trL_eI hi hj).symm
    · unfold dgM
      by_cases e : i = j
      · subst e; rfl
      · rw [if_neg e, if_neg (Ne.symm e)]
  · rw [trL_len, trL_rowL h0, Nat.min_comm]
    exact h2
theorem trRk {xss : List (List Int)} {n c r : Nat} (h : RkP n c (eI xss) r) : RkP c n (eI (trL xss n c)) r := by
  refine ⟨h.rc, h.rn, h.up.tr.congr fun i j hi hj => trL_eI hi hj, ?_⟩
  obtain ⟨is, js, h1, h2, h3⟩ := h.mn
  refine ⟨js, is, h2, h1, ?_⟩
  rw [det_congr (B := fun x y => eI xss (is y) (js x)) fun i j hi hj => trL_eI (h2 i hi) (h1 j hj)]
  rw [det_tr r fun x y => eI xss (is x) (js y)]
  exact h3
theorem trDet {xss : List (List Int)} {n : Nat} : det n (eI (trL xss n n)) = det n (eI xss) := by
  rw [det_congr (B := fun i j => eI xss j i) fun i j hi hj => trL_eI hi hj]
  exact det_tr n (eI xss)
end Go.Proofs.Yteanhbldhaiekaa
