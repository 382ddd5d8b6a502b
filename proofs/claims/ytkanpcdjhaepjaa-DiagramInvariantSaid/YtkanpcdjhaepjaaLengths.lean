/-
  The contract of lengths: two lists of rows that have as many rows of each length.
-/
import Derived.Test.YtkanpcdjhaepjaaRLists
import Derived.Maps.OwnOps
import Derived.Maps.RangeWalk
import Derived.Maps.Views
namespace Go.Proofs.Ytkanpcdjhaepjaa
open Go.RowKit Go.Maps

/-- how many rows have the length x -/
def lenI (xss : List (List Int)) (x : Int) : Int := (xss.countP fun r => decide ((r.length : Int) = x) : Nat)
theorem lenI_bd (xss : List (List Int)) (x : Int) : 0 ≤ lenI xss x ∧ lenI xss x ≤ xss.length := by
  unfold lenI
  have := List.countP_le_length (p := fun r : List Int => decide ((r.length : Int) = x)) (l := xss)
  omega
theorem lenI_take {xss : List (List Int)} {k : Nat} (hk : k < xss.length) (x : Int) : lenI (xss.take (k + 1)) x = lenI (xss.take k) x + if ((xss.getD k []).length : Int) = x then 1 else 0 := by
  unfold lenI
  rw [List.take_succ_eq_append_getElem hk, List.countP_append, show xss.getD k [] = xss[k] by simp [hk]]
  simp only [List.countP_cons, List.countP_nil, decide_eq_true_eq]
  split <;> simp

/-- the map reads as F -/
structure MapIs (D : DataW Unit) (F : Int → Int) : Prop where
  m : IsMap D
  at_ : ∀ x, D.atKey (.int .i64 x) (.lit (.int .i64 0)) = .lit (.int .i64 (F x))
theorem MapIs.put {D : DataW Unit} {F : Int → Int} (h : MapIs D F) (l c : Int) : MapIs (D.put (.int .i64 l) (.lit (.int .i64 c))) (fun x => if x = l then c else F x) := by
  refine ⟨h.m.put _ _, fun x => ?_⟩
  by_cases e : x = l
  · subst e
    rw [atKey_put_same h.m (show WideAt.IsKeyLit (.int .i64 x) from trivial), if_pos rfl]
  · rw [atKey_put_other (fun e' => e (by injection e')), if_neg e]
    exact h.at_ x
theorem MapIs.congr {D : DataW Unit} {F G : Int → Int} (h : MapIs D F) (hFG : ∀ x, F x = G x) : MapIs D G := ⟨h.m, fun x => by rw [h.at_, hFG]⟩
theorem MapIs.nil : MapIs (.map []) (fun _ => 0) := ⟨isMap_empty, fun _ => rfl⟩

theorem lawI : Keyed Try.prog 3 := int_keyed Try.underlying3
theorem zeroI (w : World) : (zeroValue 3).run Try.prog w = .ok (.int .i64 0) w := by kernel_rfl
theorem i64_wf {x : Int} (h : -9223372036854775808 ≤ x ∧ x ≤ 9223372036854775807) : (Lit.int .i64 x).wf = true := by
  have hmin : IntKind.i64.min = -9223372036854775808 := rfl
  have hmax : IntKind.i64.max = 9223372036854775807 := rfl
  simp only [Lit.wf, Bool.and_eq_true, decide_eq_true_eq]
  omega
/-- what the lengths' walk keeps -/
structure LgSt (w0 w : World) (A B : Option Addr) (xss yss : List (List Int)) : Prop where
  rx : RL w (· < w0.heap.size) A xss
  ry : RL w (· < w0.heap.size) B yss
  bl : Below w0.heap.size w0 w
theorem LgSt.grown {w0 w w' : World} {A B : Option Addr} {xss yss : List (List Int)} (h : LgSt w0 w A B xss yss) (hg : w.grownBy w' (some w0.heap.size)) : LgSt w0 w' A B xss yss := by
  have hs := h.bl.size
  have hk : ∀ b, b < w0.heap.size → w'.heap[b]? = w.heap[b]? := fun b hb => hg.block b (by omega) (fun e => by injection e; omega)
  exact ⟨h.rx.keep hk, h.ry.keep hk, h.bl.grown hg hs (fun j hj => by injection hj; omega)⟩

set_option maxRecDepth 100000 in
set_option maxHeartbeats 4000000 in
theorem lengths_true (A B : Option Addr) (c d : Nat) (xss yss : List (List Int)) (w : World) (hx : RL w (· < w.heap.size) A xss) (hy : RL w (· < w.heap.size) B yss) (hxl : xss.length ≤ 1000) (hyl : yss.length ≤ 1000) (h : ∀ x, lenI xss x = lenI yss x) :
    Calls Try.prog 39 #[.slice A xss.length c, .slice B yss.length d] w fun e w' => e = .returned (.bool true) ∧ Below w.heap.size w w' := by
  have hmm := @run_makeMap Try.prog
  have S0 : Hid (LgSt w (w.alloc (.map #[] 0)) A B xss yss) := by
    have hb := (Below.refl w.heap.size w).alloc (Nat.le_refl _) (.map #[] 0)
    exact Lib.hid ⟨hx.below hb, hy.below hb, hb⟩
  have H := Lib.hid h
  clear hx hy h
  go_enter Try.func39, Try.ntmps39
  go_wp2_with fail
  clear hmm
  have O0 := Lib.hid (World.ownsMap_made (P := Try.prog) (k := 3) (R := plainElem (H := Unit) Try.prog 3) w)
  go_loopw [15] (fun i wr => ∃ (k : Nat) (D : DataW Unit), k ≤ xss.length ∧ i = .int .i64 k ∧ Hid (LgSt w wr A B xss yss) ∧ Hid (wr.ownsMap Try.prog 3 (plainElem Try.prog 3) w.heap.size k D) ∧ Hid (MapIs D (lenI (xss.take k)))) (fun i _ => xss.length - (intOf i).toNat)
  case atStart => exact ⟨0, _, Nat.zero_le _, rfl, S0, O0, Lib.hid (MapIs.nil.congr fun x => rfl)⟩
  case round =>
    clear S0 O0
    obtain ⟨k, D, hk, rfl, HT, HO, HM⟩ := hrel
    by_cases hlt : k < xss.length
    · obtain ⟨bg, og, rfl, -, hcg⟩ := HT.out.rx.at_ hlt
      obtain ⟨Ak, ck, hck, -, hlk⟩ := hcg k hlt
      obtain ⟨l, hl⟩ : ∃ l, (xss.getD k []).length = l := ⟨_, rfl⟩
      have hst := fun x => lenI_take hlt x
      rw [hl] at hck hlk
      have hat0 := HM.out.at_ (l : Int)
      have hbd := lenI_bd (xss.take k) (l : Int)
      have hlt2 : (xss.take k).length ≤ k := List.length_take_le _ _
      obtain ⟨f, hf⟩ : ∃ f, lenI (xss.take k) (l : Int) = f := ⟨_, rfl⟩
      rw [hf] at hat0 hbd
      have HM' : Hid (MapIs (D.put (.int .i64 (l : Int)) (.lit (.int .i64 (f + 1)))) (lenI (xss.take (k + 1)))) := Lib.hid ((HM.out.put (l : Int) (f + 1)).congr fun x => by
        rw [hst x, hl]
        by_cases e : x = (l : Int)
        · rw [if_pos e, if_pos e.symm, e, hf]
        · rw [if_neg e, if_neg (fun e' => e e'.symm), Int.add_zero])
      have HAT := Lib.hid hat0
      unfold maxLen at hlk
      have hkey : keyOf Try.prog 3 (.int .i64 (l : Int)) = some (.int .i64 (l : Int)) := keyOf_int_mk Try.underlying3 (i64_wf (by omega))
      have HKEY := Lib.hid hkey
      have hf0 : 0 ≤ f := hbd.1
      have hf1 : f ≤ 1000 := by omega
      clear hcg hl hst hat0 hf hbd hkey HM
      go_wp2_with (first
        | (at_lookup; refine wpList_lookup_own_int _ rfl _ _ 56 rfl 3 3 .i64 lawI Try.underlying56 Try.underlying3 (zeroI _) w.heap.size k _ rfl HO.out _ _ rfl HKEY.out ?_; intro cc hat hwc; (obtain rfl : cc = f := by have e := hat.symm.trans HAT.out; injection e with e; injection e); clear hat hwc)
        | (at_mapUpdate; refine wpList_mapUpdate_own _ rfl _ _ _ 56 rfl 3 3 lawI Try.underlying56 _ w.heap.size k _ rfl HO.out (by unfold maxLen; omega) _ _ _ rfl rfl HKEY.out _ [] (plainElem_int Try.underlying3 (i64_wf (by omega))) ?_; intro w1 hown1 hgrow1; have HO1 := Lib.hid hown1; have HT1 := Lib.hid (HT.out.grown hgrow1); clear hown1 hgrow1))
      go_roundw
      case rel => exact ⟨k + 1, _, by omega, by go_num, HT1, HO1, HM'⟩
      case measure => simp [intOf]; omega
    · obtain rfl : k = xss.length := by omega
      rw [List.take_length] at HM
      go_wp2_with fail
      go_loopw [27] (fun i wr => ∃ (j : Nat) (D : DataW Unit), j ≤ yss.length ∧ i = .int .i64 j ∧ Hid (LgSt w wr A B xss yss) ∧ Hid (wr.ownsMap Try.prog 3 (plainElem Try.prog 3) w.heap.size (xss.length + j) D) ∧ Hid (MapIs D (fun x => lenI xss x - lenI (yss.take j) x))) (fun i _ => yss.length - (intOf i).toNat)
      case atStart => exact ⟨0, _, Nat.zero_le _, rfl, HT, HO, Lib.hid (HM.out.congr fun x => by rw [List.take_zero]; show _ = _ - lenI [] x; unfold lenI; simp)⟩
      case round =>
        clear HT HO HM
        obtain ⟨j, D, hj, rfl, HT, HO, HM⟩ := hrel
        by_cases hlt2 : j < yss.length
        · obtain ⟨bg, og, rfl, -, hcg⟩ := HT.out.ry.at_ hlt2
          obtain ⟨Ak, ck, hck, -, hlk⟩ := hcg j hlt2
          obtain ⟨l, hl⟩ : ∃ l, (yss.getD j []).length = l := ⟨_, rfl⟩
          have hst := fun x => lenI_take hlt2 x
          rw [hl] at hck hlk
          have hat0 := HM.out.at_ (l : Int)
          have hbd := lenI_bd (yss.take j) (l : Int)
          have hbd2 := lenI_bd xss (l : Int)
          have hlt3 : (yss.take j).length ≤ j := List.length_take_le _ _
          obtain ⟨f, hf⟩ : ∃ f, lenI xss (l : Int) - lenI (yss.take j) (l : Int) = f := ⟨_, rfl⟩
          rw [hf] at hat0
          have HM' : Hid (MapIs (D.put (.int .i64 (l : Int)) (.lit (.int .i64 (f - 1)))) (fun x => lenI xss x - lenI (yss.take (j + 1)) x)) := Lib.hid ((HM.out.put (l : Int) (f - 1)).congr fun x => by
            rw [hst x, hl]
            by_cases e : x = (l : Int)
            · rw [if_pos e, if_pos e.symm, e, ← hf]
              omega
            · rw [if_neg e, if_neg (fun e' => e e'.symm), Int.add_zero])
          have HAT := Lib.hid hat0
          unfold maxLen at hlk
          have hkey : keyOf Try.prog 3 (.int .i64 (l : Int)) = some (.int .i64 (l : Int)) := keyOf_int_mk Try.underlying3 (i64_wf (by omega))
          have HKEY := Lib.hid hkey
          have hf0 : -1000 ≤ f := by omega
          have hf1 : f ≤ 1000 := by omega
          clear hcg hl hst hat0 hf hbd hbd2 hlt3 hkey HM
          go_wp2_with (first
            | (at_lookup; refine wpList_lookup_own_int _ rfl _ _ 56 rfl 3 3 .i64 lawI Try.underlying56 Try.underlying3 (zeroI _) w.heap.size (xss.length + j) _ rfl HO.out _ _ rfl HKEY.out ?_; intro cc hat hwc; (obtain rfl : cc = f := by have e := hat.symm.trans HAT.out; injection e with e; injection e); clear hat hwc)
            | (at_mapUpdate; refine wpList_mapUpdate_own _ rfl _ _ _ 56 rfl 3 3 lawI Try.underlying56 _ w.heap.size (xss.length + j) _ rfl HO.out (by unfold maxLen; omega) _ _ _ rfl rfl HKEY.out _ [] (plainElem_int Try.underlying3 (i64_wf (by omega))) ?_; intro w1 hown1 hgrow1; have HO1 := Lib.hid hown1; have HT1 := Lib.hid (HT.out.grown hgrow1); clear hown1 hgrow1))
          go_roundw
          case rel => exact ⟨j + 1, _, by omega, by go_num, HT1, HO1, HM'⟩
          case measure => simp [intOf]; omega
        · obtain rfl : j = yss.length := by omega
          have HZ : Hid (MapIs D (fun _ => 0)) := Lib.hid (HM.out.congr fun x => by rw [List.take_length, H.out x]; omega)
          have HB := Lib.hid HT.out.bl
          have hsz := HT.out.bl.size
          clear HM HT H
          go_wp2_with (first
            | (at_range; refine wpList_range_own _ rfl _ 56 rfl 3 3 lawI Try.underlying56 _ w.heap.size (xss.length + yss.length) _ rfl HO.out ?_; intro w0 hrg0 hg0 hs0; have HRG := Lib.hid hrg0; have HB0 := Lib.hid (HB.out.grown hg0 hsz (fun j hj => by cases hj)); clear hrg0 hg0 hs0))
          go_frame
          obtain ⟨r, hr⟩ : ∃ r, wr.heap.size = r := ⟨_, rfl⟩
          have hrw : w.heap.size ≤ r := by omega
          rw [hr] at HRG ⊢
          clear hr HB
          go_loopw [11] (fun _ wr => ∃ (left : Lit → Bool) (cnt : Nat), Hid (wr.ranges Try.prog 3 (plainElem Try.prog 3) w.heap.size r (xss.length + yss.length) D left cnt) ∧ Hid (Below w.heap.size w wr)) (fun _ wr => wr.rangeLeft w.heap.size r)
          case atStart => exact ⟨_, _, HRG, HB0⟩
          case round =>
            clear HRG HB0
            obtain ⟨left, cnt, HR, HW⟩ := hrel
            go_wp2_with (first
              | (at_next; refine wpList_next_ranges_ii _ rfl _ rfl 3 3 .i64 .i64 lawI Try.underlying3 Try.underlying3 w.heap.size r (xss.length + yss.length) _ _ _ rfl HR.out ?_ ?_))
            · intro _ _
              go_wp2_with fail
              go_ret
              exact ⟨rfl, HW.out⟩
            · intro x cc w1 cnt1 hwx hwc hlx hat hrg1 hlt1 hg1 hs1 hen
              obtain rfl : cc = 0 := by
                have e := (hat (.lit (.int .i64 0))).symm.trans (HZ.out.at_ x)
                injection e with e
                injection e
              have HR1 := Lib.hid hrg1
              have HW1 := Lib.hid (HW.out.grown hg1 HW.out.size (fun j hj => by injection hj; omega))
              have HLT := Lib.hid hlt1
              clear hat hrg1 hg1 hwx hwc hlx hlt1
              go_wp2_with fail
              go_roundw
              case rel => exact ⟨_, cnt1, HR1, HW1⟩
              case measure => rw [HR1.out.left_eq, HR.out.left_eq]; exact HLT.out
end Go.Proofs.Ytkanpcdjhaepjaa
