/-
  The contracts of the reference's In, circle and Graph of layer 32.
-/
import Derived.Test.YtaghemilihaiaaaRCircW
import Derived.Test.YtaghemilihaiaaaSGraph
import Derived.Test.YtaghemilihaiaaaRLists
namespace Go.Proofs.Ytaghemilihaiaaa
open Go.RowKit

set_option maxHeartbeats 400000 in
theorem rin_any (A : Option Addr) (c : Nat) (xs : List Int) (x : Int) (w : World) (S : Nat → Prop) (hx : RI w S A xs) (hm : xs.length ≤ maxLen) :
    Calls Try.prog 50 #[.slice A xs.length c, .int .i64 x] w fun e w' => e = .returned (.bool (decide (x ∈ xs))) ∧ w = w' := by
  unfold maxLen at hm
  go_enter Try.func50, Try.ntmps50
  go_wp2_with fail
  go_loop [5] (fun i => ∃ k : Nat, k ≤ xs.length ∧ i = .int .i64 k ∧ Hid (∀ j, j < k → gi xs j ≠ x)) (fun i => xs.length - (intOf i).toNat)
  case atStart => exact ⟨0, Nat.zero_le _, rfl, by intro j hj; omega⟩
  case round =>
    obtain ⟨k, hk, rfl, HA⟩ := hrel
    by_cases hlt : k < xs.length
    · obtain ⟨b, off, rfl, -, hc⟩ := hx.at_ hlt
      have c1 := hc k hlt
      clear hc
      by_cases he : gi xs k = x
      · have e3 : (gi xs k == x) = true := by rw [beq_iff_eq]; exact he
        have hd : decide (x ∈ xs) = true := decide_eq_true (by rw [← he, gi_lt hlt]; exact List.getElem_mem hlt)
        have H := Lib.hid hd
        clear he hd
        go_wp2_with fail
        go_ret
        exact ⟨ret_bool H.out.symm, rfl⟩
      · have e3 : (gi xs k == x) = false := by rw [beq_eq_false_iff_ne]; exact he
        have HA' : Hid (∀ j, j < k + 1 → gi xs j ≠ x) := by
          intro j hj
          rcases Nat.lt_or_eq_of_le (Nat.le_of_lt_succ hj) with h | rfl
          · exact HA.out j h
          · exact he
        clear he
        go_wp2_with fail
        go_round
        case rel => exact ⟨k + 1, by omega, by go_num, HA'⟩
        case measure => simp [intOf]; omega
    · have hd : decide (x ∈ xs) = false := decide_eq_false fun hm => by
        obtain ⟨j, hj, e⟩ := List.getElem_of_mem hm
        exact HA.out j (by omega) (by rw [gi_lt hj]; exact e)
      have H := Lib.hid hd
      clear hd
      go_wp2_with fail
      go_ret
      exact ⟨ret_bool H.out.symm, rfl⟩

/-! ### where a half-edge lies among the circles -/
theorem cycsL_at (f : Nat → Nat) (N : Nat) (wt : Nat → Bool) : ∀ n r, r < n → wt r = true → lstB f N r = true → (cycsL f N wt n)[ixB f N wt r]? = some (cyc f N r)
  | 0, r, h, _, _ => by omega
  | n + 1, r, h, hw, hl => by
    rw [cycsL_succ]
    rcases Nat.lt_or_eq_of_le (Nat.le_of_lt_succ h) with h1 | h1
    · have := cycsL_at f N wt n r h1 hw hl
      rw [List.getElem?_append_left (List.getElem?_eq_some_iff.1 this).1]
      exact this
    · subst h1
      rw [if_pos (by rw [hw, hl]; rfl), List.getElem?_append_right (by rw [cycsL_ix]; exact Nat.le_refl _), cycsL_ix]
      simp
theorem cycsL_rep (f : Nat → Nat) (N : Nat) (wt : Nat → Bool) : ∀ n i (hi : i < (cycsL f N wt n).length), ∃ r, r < n ∧ wt r = true ∧ lstB f N r = true ∧ ixB f N wt r = i ∧ (cycsL f N wt n)[i] = cyc f N r
  | 0, i, hi => by simp [cycsL] at hi
  | n + 1, i, hi => by
    by_cases hn : i < (cycsL f N wt n).length
    · obtain ⟨r, h1, h2, h3, h4, h5⟩ := cycsL_rep f N wt n i hn
      refine ⟨r, by omega, h2, h3, h4, ?_⟩
      simp only [cycsL_succ]
      rw [List.getElem_append_left hn]
      exact h5
    · by_cases hb : (wt n && lstB f N n) = true
      · have hb2 := hb
        rw [Bool.and_eq_true] at hb2
        have hl : (cycsL f N wt (n + 1)).length = (cycsL f N wt n).length + 1 := by rw [cycsL_succ, if_pos hb]; simp
        have hi2 : i = (cycsL f N wt n).length := by omega
        refine ⟨n, by omega, hb2.1, hb2.2, by rw [hi2, cycsL_ix], ?_⟩
        subst hi2
        simp only [cycsL_succ, if_pos hb]
        simp
      · exfalso
        have hl : (cycsL f N wt (n + 1)).length = (cycsL f N wt n).length := by rw [cycsL_succ, if_neg hb]; simp
        omega
section
variable {f : Nat → Nat} {N : Nat} {wt : Nat → Bool} (hP : PermB f N) (hw : ∀ h, h < N → wt (f h) = wt h)
include hP hw
theorem num_lt {h : Nat} (hh : h < N) (hwt : wt h = true) : numN f N wt h < (cycsL f N wt N).length ∧ (cycsL f N wt N)[numN f N wt h]? = some (cyc f N (lstN f N h)) := by
  obtain ⟨a1, a2⟩ := lstN_spec hP hh
  have := cycsL_at f N wt N (lstN f N h) (cyc_lt hP hh a1) (by rw [wt_cyc hP hw hh a1]; exact hwt) (lstN_lstB hP hh)
  exact ⟨(List.getElem?_eq_some_iff.1 this).1, this⟩
theorem num_mem {h i : Nat} (hh : h < N) (hwt : wt h = true) (hi : i < (cycsL f N wt N).length) : h ∈ (cycsL f N wt N)[i] ↔ i = numN f N wt h := by
  constructor
  · intro hm
    obtain ⟨r, h1, h2, h3, h4, h5⟩ := cycsL_rep f N wt N i hi
    rw [h5] at hm
    unfold numN
    rw [lstN_same hP h1 hm, lstN_least hP h1 h3, h4]
  · rintro rfl
    have h2 := (num_lt hP hw hh hwt).2
    rw [List.getElem?_eq_getElem hi] at h2
    injection h2 with h2
    rw [h2]
    obtain ⟨a1, a2⟩ := lstN_spec hP hh
    exact mem_symm hP hh a1
end
theorem mem_ints {l : List Nat} {x : Nat} : (x : Int) ∈ ints l ↔ x ∈ l := by
  unfold ints
  rw [List.mem_map]
  constructor
  · rintro ⟨a, ha, e⟩
    have : (a : Int) = (x : Int) := e
    have : a = x := by omega
    rw [← this]; exact ha
  · intro h; exact ⟨x, h, rfl⟩

/-- the circle of an edge: that of its outgoing half-edge -/
def outEnd (sg mt : List Int) (h : Nat) : Nat := if outB sg h = true then h else gn mt h
theorem outEnd_ok {sg mt : List Int} {L : Int} (hd : IsD sg mt L) {h : Nat} (hh : h < mt.length) : outEnd sg mt h < mt.length ∧ outB sg (outEnd sg mt h) = true := by
  unfold outEnd
  split
  · rename_i ho; exact ⟨hh, ho⟩
  · rename_i ho
    refine ⟨(hd.2.2.2.2.2.1.gn hh).2.1, ?_⟩
    have := hd.2.2.2.2.2.2.1 h hh
    cases h' : outB sg (gn mt h)
    · rw [h'] at this; exact absurd (by simpa using ho) this
    · rfl

set_option maxHeartbeats 2000000 in
theorem rcircle_any (A1 A2 A3 : Option Addr) (c1 c2 c3 : Nat) (sg mt : List Int) (L hi : Int) (h : Nat) (w : World) (hx : RI w (· < w.heap.size) A1 sg) (hy : RI w (· < w.heap.size) A2 mt) (hl : RL w (· < w.heap.size) A3 (rows (circL sg mt))) (hd : IsD sg mt L) (hh : h < mt.length) (he : hi = h) (q : Nat) (hq : (circL sg mt).length = q) :
    Calls Try.prog 44 #[.agg #[.slice A1 sg.length c1, .slice A2 mt.length c2, .int .i64 L], .slice A3 q c3, .int .i64 hi] w fun e w' => e = .returned (.int .i64 (numN (nxC sg mt) mt.length (outB sg) (outEnd sg mt h) : Int)) ∧ Below w.heap.size w w' := by
  subst he
  have hD := DBox.start (c1 := c1) (c2 := c2) (L := L) (· < w.heap.size) hx hy (fun _ h => h)
  have hb0 : Below w.heap.size w (w.alloc (.cells #[.slice A1 sg.length c1, .slice A2 mt.length c2, .int .i64 L] 24)) := (Below.refl _ _).alloc (Nat.le_refl _) _
  obtain ⟨hg1, hg2, -, -⟩ := hd.2.2.2.2.2.1.gn hh
  obtain ⟨ho1, ho2⟩ := outEnd_ok hd hh
  have hn := hd.2.1
  have h64 := hd.1
  have hsl : sg.length ≤ 1099511627776 := by omega
  have hP := nxC_perm hd
  have hW := out_nxC hd
  have hnl := (num_lt hP hW ho1 ho2).1
  have hqb : q ≤ 256 := by
    have := cycsL_len (nxC sg mt) mt.length (outB sg) mt.length
    rw [rows_cycs_length] at this
    rw [← hq]
    unfold circL
    omega
  have HL := Lib.hid (hl.below hb0)
  obtain ⟨b2, o2, rfl, hb2, hc2⟩ := hy.at_ hh
  have k4 := (hb0.cell (p := ⟨b2, o2 + h, none⟩) hb2).trans (hc2 h hh)
  rw [hg1] at k4
  obtain ⟨g, hg⟩ : ∃ g, outEnd sg mt h = g := ⟨_, rfl⟩
  obtain ⟨m, hm⟩ : ∃ m, numN (nxC sg mt) mt.length (outB sg) g = m := ⟨_, rfl⟩
  rw [hg] at ho1 ho2 hnl ⊢
  rw [hm] at hnl ⊢
  have hnq : m < q := by rw [← hq]; exact hnl
  have HMEM : Hid (∀ i (hi : i < (circL sg mt).length), g ∈ (circL sg mt)[i] ↔ i = m) := fun i hi => by rw [← hm]; exact num_mem hP hW ho1 ho2 hi
  have HQ := Lib.hid hq
  have hqr : (rows (circL sg mt)).length = q := by rw [rows_cycs_length]; exact hq
  have HQR := Lib.hid hqr
  have HB := Lib.hid hb0
  have HR := Lib.hid (hx.below hb0)
  obtain ⟨x, hxo⟩ : ∃ x, outB sg h = x := ⟨_, rfl⟩
  have HO := Lib.hid hxo
  have hge : g = if x = true then h else gn mt h := by rw [← hg, ← hxo]; rfl
  have HN := Lib.hid hn
  have HH := Lib.hid hh
  have HGE := Lib.hid hge
  have HDX := Lib.hid hD
  clear hx hy hl hD hg1 hg2 hc2 hg hm hn hh hP hW hnl hq hqr hxo hge hb0 hd ho1 ho2
  go_enter Try.func44, Try.ntmps44
  go_wp2_with fail
  obtain ⟨W, hW⟩ : ∃ W, w.alloc (.cells #[.slice A1 sg.length c1, .slice (some ⟨b2, o2, none⟩) mt.length c2, .int .i64 L] 24) = W := ⟨_, rfl⟩
  rw [hW] at HL HB HR k4 HDX ⊢
  have m0 := HDX.out.c0
  have m1 := HDX.out.c1
  have m2 := HDX.out.c2
  clear HDX
  refine (rout_is (c := c1) (h := h) (· < w.heap.size) x HR.out hsl rfl (by have := HN.out; have := HH.out; omega) HO.out).mono ?_
  rintro e w1 ⟨rfl, rfl⟩
  cases x
  case' true => (obtain rfl : g = h := HGE.out)
  case' false => (obtain rfl : g = gn mt h := HGE.out)
  all_goals
    go_wp2_with fail
    clear k4 m0 m1 m2
    go_loop [7] (fun i => ∃ k : Nat, k ≤ m ∧ i = .int .i64 k) (fun i => q - (intOf i).toNat)
    case atStart => exact ⟨0, Nat.zero_le _, rfl⟩
    case round =>
      obtain ⟨k, hk, rfl⟩ := hrel
      have hlt : k < q := by omega
      obtain ⟨b, off, rfl, -, hc⟩ := HL.out.at_ (k := k) (by rw [HQR.out]; exact hlt)
      obtain ⟨Ak, ck, k3, r3, l3⟩ := hc k (by rw [HQR.out]; exact hlt)
      rw [rows_getD (by rw [HQ.out]; exact hlt)] at k3 r3 l3
      have HR3 := Lib.hid r3
      have HL3 := Lib.hid l3
      have hmem := HMEM.out k (by rw [HQ.out]; exact hlt)
      obtain ⟨cl, hcl⟩ : ∃ cl, (circL sg mt)[k]'(by rw [HQ.out]; exact hlt) = cl := ⟨_, rfl⟩
      simp only [hcl] at k3 HR3 HL3 hmem
      have HMM := Lib.hid hmem
      clear hc r3 l3 hmem hcl
      go_wp2_with fail
      refine (rin_any Ak ck (ints cl) _ _ (· < w.heap.size) HR3.out HL3.out).mono ?_
      rintro e w2 ⟨rfl, rfl⟩
      by_cases hkm : k = m
      · subst hkm
        rw [decide_eq_true (mem_ints.2 (HMM.out.2 rfl))]
        go_wp2_with fail
        go_ret
        exact ⟨rfl, HB.out⟩
      · rw [decide_eq_false (fun hm => hkm (HMM.out.1 (mem_ints.1 hm)))]
        have hkm2 : k < m := by omega
        clear hkm
        go_wp2_with fail
        go_round
        case rel => exact ⟨k + 1, by omega, by go_num⟩
        case measure => simp [intOf]; omega
end Go.Proofs.Ytaghemilihaiaaa

