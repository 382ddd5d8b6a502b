/-
  The contract of cycles, for whatever successor function and whatever kind of wanted numbers.
-/
import Derived.Test.YtaghemilihaiaaaCycF
import Derived.Test.YtaghemilihaiaaaRR
import Derived.Test.YtaghemilihaiaaaSph
namespace Go.Proofs.Ytaghemilihaiaaa
open Go.RowKit

/-- a closure tells below N which numbers are wanted -/
def WantOk (K : Nat) (cw : Array Value) (N : Nat) (wt : Nat → Bool) (w : World) : Prop := ∀ (g : Nat) (W : World), g < N → Below w.heap.size w W →
  Calls Try.prog K (#[.int .i64 g] ++ cw) W fun e w' => e = .returned (.bool (wt g)) ∧ Below W.heap.size W w'

def rows (ls : List (List Nat)) : List (List Int) := ls.map ints

/-- what the search of cycles has when it comes to k -/
structure CySt (w wr : World) (f : Nat → Nat) (N : Nat) (wt : Nat → Bool) (k : Nat) (bs : List Bool) (v : Value) : Prop where
  br : BRow wr w.heap.size N bs
  seen : SeenL f N wt k bs
  row : RR 22 wr w.heap.size (· = w.heap.size) v (rows (cycsL f N wt k))
  below : Below w.heap.size w wr

theorem CySt.later {w wr w' : World} {f : Nat → Nat} {N : Nat} {wt : Nat → Bool} {k : Nat} {bs : List Bool} {v : Value} (h : CySt w wr f N wt k bs v) (hb : Below wr.heap.size wr w') : CySt w w' f N wt k bs v :=
  ⟨h.br.keep (hb.block _ h.br.size) hb.size, h.seen, h.row.below hb (Nat.le_refl _), h.below.trans (hb.mono h.below.size)⟩
theorem CySt.skip {w wr : World} {f : Nat → Nat} {N : Nat} {wt : Nat → Bool} {k : Nat} {bs : List Bool} {v : Value} (h : CySt w wr f N wt k bs v) (hno : ¬ (wt k = true ∧ lstB f N k = true)) : CySt w wr f N wt (k + 1) bs v := by
  refine ⟨h.br, seenL_skip h.seen hno, ?_, h.below⟩
  rw [cycsL_succ, if_neg (by rw [Bool.and_eq_true]; exact hno), List.append_nil]
  exact h.row
/-- the marks along the new cycle: the list u, its blocks from B on -/
structure CyMk (w wr : World) (f : Nat → Nat) (N : Nat) (wt : Nat → Bool) (k j : Nat) (bs : List Bool) (v u : Value) (B : Nat) : Prop where
  br : BRow wr w.heap.size N bs
  seen : SeenJ f N wt k j bs
  row : RR 22 wr w.heap.size (· = w.heap.size) v (rows (cycsL f N wt k))
  list : OI wr B u (ints (cyc f N k))
  below : Below w.heap.size w wr
theorem CyMk.mark {w wr : World} {f : Nat → Nat} {N : Nat} {wt : Nat → Bool} {k j : Nat} {bs : List Bool} {v u : Value} {B : Nat} (hP : PermB f N) (hk : k < N) (hB : w.heap.size < B) (h : CyMk w wr f N wt k j bs v u B) :
    CyMk w (wr.setCell ⟨w.heap.size, it f j k, none⟩ (.bool true)) f N wt k (j + 1) (bs.set (it f j k) true) v u B :=
  ⟨h.br.mark _, seenJ_step hP hk h.seen, h.row.keep fun b _ _ hF => Below.heap_setCell wr _ _ b hF, h.list.keep fun g hg => Below.heap_setCell wr _ _ g (by have := (h.list.lt g hg).1; simp; omega), h.below.setCell (Nat.le_refl _) _⟩

theorem rows_cycs_length (ls : List (List Nat)) : (rows ls).length = ls.length := by simp [rows]
theorem rows_len {w : World} {N : Nat} {F : Nat → Prop} {v : Value} {vs : List Value} {xss : List (List Int)} (h : RRv 22 w N F v vs xss) : vs.length = xss.length := h.2.2.1
theorem cycsL_len (f : Nat → Nat) (N : Nat) (wt : Nat → Bool) (k : Nat) : (rows (cycsL f N wt k)).length ≤ k := by
  unfold rows cycsL
  rw [List.length_map, List.length_map]
  have := List.length_filter_le (fun h => wt h && lstB f N h) (List.range k)
  simpa using this

theorem CyMk.push {w wr w' : World} {f : Nat → Nat} {N : Nat} {wt : Nat → Bool} {k j : Nat} {bs : List Bool} {v v' u : Value} {B : Nat} {vs : List Value} (h : CyMk w wr f N wt k j bs v u B) (hB : w.heap.size < B) (hP : PermB f N) (hk : k < N) (hwt : wt k = true) (hl : lstB f N k = true) (hj : j = per f N k)
    (HV : RRv 22 wr w.heap.size (· = w.heap.size) v vs (rows (cycsL f N wt k))) (ho : OR 22 id w' w.heap.size v' (vs ++ [u])) (hg : (wr.alloc (.cells #[u] 22)).grownBy w' v.ownBlock) (hob : v'.ownBlock = v.ownBlock ∨ v'.ownBlock = some (wr.heap.size + 1)) :
    CySt w w' f N wt (k + 1) bs v' := by
  have hR := RRv.push (by decide) HV (h.list.mono (by omega)) (fun g hgu hF => by have := (h.list.lt g hgu).1; omega) (fun b hF => by have := h.br.size; omega) ho hg hob
  refine ⟨h.br.keep ?_ (by have := hg.size; simp at this; omega), seenJ_end hP hk hwt hl h.seen hj, ⟨vs ++ [u], ?_⟩, ?_⟩
  · rw [hg.block _ (by have := h.br.size; simp; omega) (fun e => HV.2.1 _ e.symm rfl), Below.heap_alloc wr _ _ h.br.size]
  · rw [cycsL_succ, if_pos (by rw [hwt, hl]; rfl)]
    unfold rows at hR ⊢
    rw [List.map_append]
    exact hR
  · exact ((h.below.alloc h.below.size _).grown hg (by have := h.below.size; simp; omega) fun g hgv => (HV.1.lt g hgv).1)

set_option maxRecDepth 100000 in
set_option maxHeartbeats 4000000 in
theorem cycles_any (K KW bd N : Nat) (cw : Array Value) (f : Nat → Nat) (wt : Nat → Bool) (w : World) (hP : PermB f N) (hw : ∀ h, h < N → wt (f h) = wt h) (hN : N ≤ 400000) (hK : Enters K) (hKW : Enters KW) (hnx : NextOk K bd N f w) (hwx : WantOk KW cw N wt w) :
    Calls Try.prog 68 #[.int .i64 N, .func (.func KW) #[] cw, .func (.func K) #[] #[.pointer (some ⟨bd, 0, none⟩)]] w fun e w' =>
      ∃ v, e = .returned v ∧ RR 22 w' w.heap.size (fun _ => False) v (rows (cycsL f N wt N)) ∧ Below w.heap.size w w' := by
  have HX := Lib.hid hnx
  have HW := Lib.hid hwx
  have HP := Lib.hid hP
  have HWT := Lib.hid hw
  have HK := Lib.hid hK
  have hmk := make_bools 59 Try.underlying59 N (by omega)
  have H0 : Hid (CySt w (w.alloc (.cells (Array.replicate N (Value.bool false)) 4)) f N wt 0 (List.replicate N false) (.slice none 0 0)) :=
    ⟨⟨by have := OB.new w w.heap.size N (Nat.le_refl _) (by unfold maxLen; omega); simpa using this, by simp, by simp⟩, seenL_zero _ _ _, RR.nil _ _ _, (Below.refl _ _).alloc (Nat.le_refl _) _⟩
  have hin : ∀ (args : Array Value) (w : World), (callFunc KW args).run Try.prog w = .ok (.enter KW args) w := hKW
  clear hnx hwx hP hw hK hKW
  go_enter Try.func68, Try.ntmps68
  go_wp2_with fail
  clear hmk
  go_loopw [7, 16] (fun v i wr => ∃ (k : Nat) (bs : List Bool), k ≤ N ∧ i = .int .i64 k ∧ Hid (CySt w wr f N wt k bs v)) (fun _ i _ => N - (intOf i).toNat)
  case atStart => exact ⟨0, _, Nat.zero_le _, rfl, H0⟩
  case round =>
    clear H0
    obtain ⟨k, bs, hk, rfl, HC⟩ := hrel
    by_cases hlt : k < N
    · obtain ⟨k1, -⟩ := HC.out.br.at_ hlt
      by_cases hb : gb bs k = true
      · have HC' : Hid (CySt w wr f N wt (k + 1) bs u7) := HC.out.skip fun ⟨h1, h2⟩ => by
          have := seenL_least HP.out HWT.out hlt h1 HC.out.seen
          rw [hb, h2] at this
          cases this
        go_wp2_with fail
        go_roundw
        case rel => exact ⟨k + 1, bs, by omega, by go_num, HC'⟩
        case measure => simp [intOf]; omega
      · have hb : gb bs k = false := by simpa using hb
        have hlst : wt k = true → lstB f N k = true := fun h1 => by
          have := seenL_least HP.out HWT.out hlt h1 HC.out.seen
          rw [hb] at this
          simpa using this.symm
        have HLST := Lib.hid hlst
        clear hlst
        go_wp2_with fail
        refine (HW.out k _ hlt HC.out.below).mono ?_
        rintro e w1 ⟨rfl, hb1⟩
        have HC1 := Lib.hid (HC.out.later hb1)
        clear hb1 HC k1
        by_cases hwt : wt k = true
        · rw [hwt]
          have HL := Lib.hid (HLST.out hwt)
          have HWK := Lib.hid hwt
          clear hwt HLST
          go_wp2_with fail
          refine (cycle_any K bd N k f _ HP.out hlt hN HK.out (HX.out.later HC1.out.below)).mono ?_
          rintro e w2 ⟨u, rfl, hu, hb2⟩
          have hpl : (cyc f N k).length ≤ N := cyc_length_le HP.out hlt
          have hpe : per f N k = (cyc f N k).length := (cyc_length f N k).symm
          obtain ⟨q, hq⟩ : ∃ q, (cyc f N k).length = q := ⟨_, rfl⟩
          rw [hq] at hpl hpe
          have HPE := Lib.hid hpe
          have HQ := Lib.hid hq
          have hB1 : w.heap.size < w1.heap.size := HC1.out.br.size
          have HM : Hid (CyMk w w2 f N wt k 0 bs u7 u w1.heap.size) := ⟨(HC1.out.later hb2).br, seenJ_zero HC1.out.seen, (HC1.out.later hb2).row, hu, (HC1.out.later hb2).below⟩
          obtain ⟨A, cu, rfl, -, -, -⟩ := hu.reads
          rw [ints_length, hq] at HM ⊢
          clear HC1 hu hb2 hpe hq
          go_wp2_with fail
          go_loopw [34] (fun i wr => ∃ (j : Nat) (bs : List Bool), j ≤ q ∧ i = .int .i64 j ∧ Hid (CyMk w wr f N wt k j bs u7 (.slice A q cu) w1.heap.size)) (fun i _ => q - (intOf i).toNat)
          case atStart => exact ⟨0, bs, Nat.zero_le _, rfl, HM⟩
          case round =>
            clear HM
            obtain ⟨j, bs, hj, rfl, HM⟩ := hrel
            by_cases hjq : j < q
            · have hjl : j < (ints (cyc f N k)).length := by rw [ints_length, HQ.out]; exact hjq
              obtain ⟨g, c, hv, -, -, -, -, hcell, -⟩ := HM.out.list.ints (by omega)
              injection hv with e1 e2 e3
              subst e1 e3
              have k2 := hcell j hjl
              have e : gi (ints (cyc f N k)) j = (it f j k : Nat) := by
                rw [gi_ints (by rw [HQ.out]; exact hjq), gN_lt (by rw [HQ.out]; exact hjq)]
                simp [cyc]
              rw [e] at k2
              have hgl : it f j k < N := HP.out.it_lt j hlt
              obtain ⟨k3, k4⟩ := HM.out.br.at_ hgl
              have HM' := Lib.hid (HM.out.mark HP.out hlt hB1)
              clear hcell e HM e2 hjl
              go_wp2_with fail
              go_roundw
              case rel => exact ⟨j + 1, _, by omega, by go_num, HM'⟩
              case measure => simp [intOf]; omega
            · obtain rfl : q = j := by omega
              obtain ⟨vs, hvs⟩ := HM.out.row
              have HV := Lib.hid hvs
              have hvl : vs.length < 1099511627776 := by
                have h1 := rows_len hvs
                have h2 := cycsL_len f N wt k
                omega
              have HVL := Lib.hid hvl
              have hsz := HM.out.below.size
              clear hvs hvl hjq
              go_wp2_with (at_builtin; refine app_row (f := id) (y := Value.slice A q cu) row_info rfl (by decide) rfl HV.out.1 HVL.out hsz rfl rfl Try.underlying27 rfl rfl ?_; intro v' w' ho hg hob)
              go_roundw
              case rel => exact ⟨k + 1, bs, by omega, by go_num, HM.out.push hB1 HP.out hlt HWK.out HL.out HPE.out.symm HV.out ho hg hob⟩
              case measure => simp [intOf]; omega
        · have hwt : wt k = false := by simpa using hwt
          rw [hwt]
          have HC' : Hid (CySt w w1 f N wt (k + 1) bs u7) := HC1.out.skip fun ⟨h1, h2⟩ => by rw [hwt] at h1; cases h1
          clear hwt HLST
          go_wp2_with fail
          go_roundw
          case rel => exact ⟨k + 1, bs, by omega, by go_num, HC'⟩
          case measure => simp [intOf]; omega
    · obtain rfl : N = k := by omega
      have HR : Hid (RR 22 wr w.heap.size (fun _ => False) u7 (rows (cycsL f N wt N))) := HC.out.row.imp fun _ _ _ h => h.elim
      have hbf := HC.out.below
      clear HC hlt
      go_wp2_with fail
      go_ret
      exact ⟨_, rfl, HR.out, hbf⟩
end Go.Proofs.Ytaghemilihaiaaa

