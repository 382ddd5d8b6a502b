/-
  The contracts of linking.strandsAt, linking.sum, linking.Number.
-/
import Derived.Test.YtcjgfncbecbhjaaLinkM
import Derived.Test.YtcjgfncbecbhjaaLong
namespace Go.Proofs.Ytcjgfncbecbhjaa
open Go.RowKit Go.Maps

/-- how an element [2]int reads -/
def pairR (v : Value) : Option (DataW Unit × List MemPlace) :=
  match v with
  | .agg xs => match xs.toList with
    | [.int .i64 a, .int .i64 b] => some (.agg [.lit (.int .i64 a), .lit (.int .i64 b)], [])
    | _ => none
  | _ => none
theorem pairR_mk (a b : Int) : pairR (.agg #[.int .i64 a, .int .i64 b]) = some (.agg [.lit (.int .i64 a), .lit (.int .i64 b)], []) := rfl
theorem pairR_inv {v : Value} {a b : Int} {ps : List MemPlace} (h : pairR v = some (.agg [.lit (.int .i64 a), .lit (.int .i64 b)], ps)) : v = .agg #[.int .i64 a, .int .i64 b] := by
  unfold pairR at h
  split at h
  · split at h
    · rename_i xs _ a' b' e
      simp only [Option.some.injEq, Prod.mk.injEq, DataW.agg.injEq, List.cons.injEq, DataW.lit.injEq, Lit.int.injEq, true_and, and_true] at h
      obtain ⟨⟨rfl, rfl⟩, -⟩ := h
      have : xs = [Value.int .i64 a', Value.int .i64 b'].toArray := by rw [← e]
      rw [this]
    · cases h
  · cases h
theorem make_mapP (n : Int) (w : World) : (Instr.makeMap 93 (some (.int .i64 n))).run Try.prog w = .ok (.map (some w.heap.size)) (w.alloc (.map #[] 0)) := by
  have h : Try.prog.underlying 93 = some (.map 3 95) := Try.underlying93
  simp [Instr.makeMap, underlying, h, asInt]
  rfl
theorem zero_pair (w : World) : (zeroValue 95).run Try.prog w = .ok (.agg #[.int .i64 0, .int .i64 0]) w := by kernel_rfl
theorem look_pair {D : DataW Unit} {b n : Nat} {w : World} (hown : w.ownsMap Try.prog 3 pairR b n D) {x : Int} (hkey : keyOf Try.prog 3 (.int .i64 x) = some (.int .i64 x)) {u o : Int}
    (hat : D.atKey (.int .i64 x) (.agg [.lit (.int .i64 0), .lit (.int .i64 0)]) = .agg [.lit (.int .i64 u), .lit (.int .i64 o)]) : (Instr.lookup 93 (.map (some b)) (.int .i64 x) false).run Try.prog w = .ok (.agg #[.int .i64 u, .int .i64 o]) w := by
  obtain ⟨v, ps, hrun, hv⟩ := hown.lookup keyed_int Try.underlying93 (zero_pair w) (pairR_mk 0 0) hkey
  rw [hat] at hv
  rw [← pairR_inv hv]; exact hrun
/-- the map's pairs -/
structure PmD (D : DataW Unit) (U O : Nat → Nat) : Prop where
  tidy : Tidy D
  at_ : ∀ c : Nat, D.atKey (.int .i64 (c : Int)) (.agg [.lit (.int .i64 0), .lit (.int .i64 0)]) = .agg [.lit (.int .i64 (U c : Int)), .lit (.int .i64 (O c : Int))]
theorem PmD.start : PmD (.map []) (fun _ => 0) (fun _ => 0) := ⟨tidy_empty, fun _ => rfl⟩
theorem PmD.put {D : DataW Unit} {U O : Nat → Nat} (h : PmD D U O) (x u o : Nat) : PmD (D.put (.int .i64 (x : Int)) (.agg [.lit (.int .i64 (u : Int)), .lit (.int .i64 (o : Int))])) (fun c => if c = x then u else U c) (fun c => if c = x then o else O c) := by
  have hik : WideAt.IsKeyLit (.int .i64 (x : Int)) := trivial
  refine ⟨h.tidy.put hik _, fun c => ?_⟩
  by_cases e : c = x
  · subst e
    rw [atKey_put_same h.tidy.isMap hik, if_pos rfl, if_pos rfl]
  · have hne : (.int .i64 (c : Int) : Lit) ≠ .int .i64 (x : Int) := fun e' => e (by injection e' with _ e2; omega)
    rw [atKey_put_other hne, h.at_ c, if_neg e, if_neg e]
structure PmS (w4 w : World) (bm n : Nat) (D : DataW Unit) (U O : Nat → Nat) : Prop where
  bel : Below bm w4 w
  keep : ∀ b, b < w4.heap.size → b ≠ bm → w.heap[b]? = w4.heap[b]?
  map : w.ownsMap Try.prog 3 pairR bm n D
  pm : PmD D U O
  lt : bm < w.heap.size
  bel4 : w4.heap.size ≤ w.heap.size

theorem PmS.put {w4 w w1 : World} {bm n : Nat} {D : DataW Unit} {U O U' O' : Nat → Nat} (h : PmS w4 w bm n D U O) {ob : Obj} {x u o : Nat}
    (hm : w1.ownsMap Try.prog 3 pairR bm (n + 1) (D.put (.int .i64 (x : Int)) (.agg [.lit (.int .i64 (u : Int)), .lit (.int .i64 (o : Int))]))) (hg : (w.alloc ob).grownBy w1 (some bm)) (h4 : w4.heap.size ≤ w.heap.size)
    (hU : ∀ c, U' c = if c = x then u else U c) (hO : ∀ c, O' c = if c = x then o else O c) : PmS w4 w1 bm (n + 1) (D.put (.int .i64 (x : Int)) (.agg [.lit (.int .i64 (u : Int)), .lit (.int .i64 (o : Int))])) U' O' := by
  have hlt := h.lt
  refine ⟨(h.bel.alloc (Nat.le_of_lt h.lt) ob).grown hg (by simp; omega) (fun k hk => by cases hk; omega), fun b hb hne => ?_, hm, ?_, by have := hg.size; simp at this; omega, by have := hg.size; simp at this; omega⟩
  · exact (hg.block b (by simp; omega) (by simpa using hne)).trans ((Below.heap_alloc w ob b (by omega)).trans (h.keep b hb hne))
  · have := h.pm.put x u o
    rw [show U' = fun c => if c = x then u else U c from funext hU, show O' = fun c => if c = x then o else O c from funext hO]
    exact this
/-! ### what the map holds -/
/-- side s of crossing c: the half-edge that leaves there -/
def oe (sg : List Int) (c s : Nat) : Nat := if s = 0 then 4 * c + 2 else if gi sg c = 1 then 4 * c + 1 else 4 * c + 3
/-- the first k strands, and j half-edges of strand k, are laid -/
def laid (sg mt : List Int) (k j x : Nat) : Bool := decide (sI sg mt x < k) || (decide (sI sg mt x = k) && decide (x ∈ (stN sg mt k).take j))
def aU (sg mt : List Int) (s k j c : Nat) : Nat := if c < sg.length ∧ laid sg mt k j (oe sg c s) = true then sI sg mt (oe sg c s) else 0
section
variable {sg mt : List Int} {L : Int} (hd : IsD sg mt L)
include hd
theorem oe_lt {c : Nat} (hc : c < sg.length) (s : Nat) : oe sg c s < mt.length := by
  have := hd.2.1
  unfold oe; repeat (first | split | omega)
theorem oe_out {c : Nat} (hc : c < sg.length) (s : Nat) : outB sg (oe sg c s) = true := by
  obtain ⟨-, o2, h⟩ := outs hd hc
  unfold oe
  split
  · exact o2
  · rcases h with ⟨e, o1, o3⟩ | ⟨e, o1, o3⟩
    · rw [if_pos e]; exact o1
    · rw [if_neg (by omega)]; exact o3
theorem oe_of {x : Nat} (hx : x < mt.length) (ho : outB sg x = true) {c s : Nat} (hc : c < sg.length) (hs : s < 2) : oe sg c s = x ↔ c = x / 4 ∧ s = x % 2 := by
  have hN := hd.2.1
  have hxc : x / 4 < sg.length := by omega
  obtain ⟨o0, o2, h⟩ := outs hd hxc
  have hx4 : x = 4 * (x / 4) ∨ x = 4 * (x / 4) + 1 ∨ x = 4 * (x / 4) + 2 ∨ x = 4 * (x / 4) + 3 := by omega
  constructor
  · intro e
    unfold oe at e
    split at e
    · omega
    · split at e <;> omega
  · rintro ⟨rfl, rfl⟩
    unfold oe
    rcases hx4 with e | e | e | e
    · rw [e] at ho; rw [ho] at o0; cases o0
    · rw [if_neg (by omega)]
      rcases h with ⟨e1, o1, o3⟩ | ⟨e1, o1, o3⟩
      · rw [if_pos e1]; omega
      · rw [e, o1] at ho; cases ho
    · rw [if_pos (by omega)]; omega
    · rw [if_neg (by omega)]
      rcases h with ⟨e1, o1, o3⟩ | ⟨e1, o1, o3⟩
      · rw [e, o3] at ho; cases ho
      · rw [if_neg (by omega)]; omega
omit hd in
theorem aU_zero (s c : Nat) : aU sg mt s 0 0 c = 0 := by
  unfold aU laid
  simp
theorem aU_step {k j : Nat} (hk : k < (strandsL sg mt).length) (hj : j < (stN sg mt k).length) {s : Nat} (hs : s < 2) (c : Nat) :
    aU sg mt s k (j + 1) c = if c = gN (stN sg mt k) j / 4 ∧ s = gN (stN sg mt k) j % 2 then k else aU sg mt s k j c := by
  obtain ⟨hx, ho⟩ := st_lt hd hk hj
  have hN := hd.2.1
  have hsx : sI sg mt (gN (stN sg mt k) j) = k := ((mem_st hd hk).1 (by rw [gN_lt hj]; exact List.getElem_mem hj)).2.2
  have hcn : gN (stN sg mt k) j / 4 < sg.length := by omega
  by_cases hc : c < sg.length
  · have h1 := oe_of hd hx ho hc hs
    have hl : laid sg mt k (j + 1) (oe sg c s) = true ↔ laid sg mt k j (oe sg c s) = true ∨ oe sg c s = gN (stN sg mt k) j := by
      unfold laid
      rw [List.take_succ_eq_append_getElem hj, gN_lt hj]
      simp only [Bool.or_eq_true, Bool.and_eq_true, decide_eq_true_eq, List.mem_append, List.mem_singleton]
      constructor
      · rintro (h | ⟨h, h2 | h2⟩)
        · exact .inl (.inl h)
        · exact .inl (.inr ⟨h, h2⟩)
        · exact .inr h2
      · rintro ((h | ⟨h, h2⟩) | h)
        · exact .inl h
        · exact .inr ⟨h, .inl h2⟩
        · refine .inr ⟨?_, .inr h⟩
          rw [h, ← gN_lt hj]; exact hsx
    unfold aU
    by_cases e : oe sg c s = gN (stN sg mt k) j
    · rw [if_pos ⟨hc, hl.2 (.inr e)⟩, if_pos (h1.1 e), e, hsx]
    · rw [if_neg (fun h => e (h1.2 h))]
      have : (c < sg.length ∧ laid sg mt k (j + 1) (oe sg c s) = true) ↔ (c < sg.length ∧ laid sg mt k j (oe sg c s) = true) :=
        ⟨fun h => ⟨h.1, (hl.1 h.2).resolve_right e⟩, fun h => ⟨h.1, hl.2 (.inl h.2)⟩⟩
      simp only [this]
  · unfold aU
    rw [if_neg (fun h => hc h.1), if_neg (fun h => hc (by rw [h.1]; exact hcn)), if_neg (fun h => hc h.1)]
theorem aU_next {k : Nat} (hk : k < (strandsL sg mt).length) (s c : Nat) : aU sg mt s (k + 1) 0 c = aU sg mt s k (stN sg mt k).length c := by
  unfold aU
  by_cases hc : c < sg.length
  · have hl : laid sg mt (k + 1) 0 (oe sg c s) = laid sg mt k (stN sg mt k).length (oe sg c s) := by
      rw [Bool.eq_iff_iff]
      unfold laid
      rw [List.take_length]
      simp only [Bool.or_eq_true, Bool.and_eq_true, decide_eq_true_eq, List.take_zero, List.not_mem_nil, and_false, or_false]
      constructor
      · intro h
        rcases Nat.lt_or_eq_of_le (Nat.le_of_lt_succ h) with h | h
        · exact .inl h
        · exact .inr ⟨h, (mem_st hd hk).2 ⟨oe_lt hd hc s, oe_out hd hc s, h⟩⟩
      · rintro (h | ⟨h, -⟩) <;> omega
    rw [hl]
  · rw [if_neg (fun h => hc h.1), if_neg (fun h => hc h.1)]
theorem aU_end {c s : Nat} (hc : c < sg.length) : aU sg mt s (strandsL sg mt).length 0 c = sI sg mt (oe sg c s) := by
  unfold aU
  rw [if_pos ⟨hc, by unfold laid; simp [(sI_spec hd (oe_lt hd hc s)).1]⟩]
theorem sI_oe {c : Nat} (hc : c < sg.length) : sI sg mt (oe sg c 0) = sI sg mt (4 * c) ∧ sI sg mt (oe sg c 1) = sI sg mt (4 * c + 1) := by
  constructor
  · show sI sg mt (if (0 : Nat) = 0 then _ else _) = _
    rw [if_pos rfl]; exact sI_under hd hc
  · show sI sg mt (if (1 : Nat) = 0 then _ else _) = _
    rw [if_neg (by omega)]
    split
    · rfl
    · exact sI_over hd hc
end

section
variable (A1 A2 : Option Addr) (c1 c2 : Nat) (sg mt : List Int) (L : Int) (w : World) (S : Nat → Prop) (hx : RI w S A1 sg) (hy : RI w S A2 mt) (hS : ∀ b, S b → b < w.heap.size)
include hx hy hS
set_option maxRecDepth 100000 in
set_option maxHeartbeats 8000000 in
theorem at_ok (hd : IsD sg mt L) :
    Calls Try.prog 85 #[.agg #[.slice A1 sg.length c1, .slice A2 mt.length c2, .int .i64 L]] w fun e w' => ∃ bm n D, e = .returned (.map (some bm)) ∧ w.heap.size ≤ bm ∧ bm < w'.heap.size ∧ w'.ownsMap Try.prog 3 pairR bm n D ∧ PmD D (aU sg mt 0 (strandsL sg mt).length 0) (aU sg mt 1 (strandsL sg mt).length 0) ∧ Below w.heap.size w w' := by
  have HD := Lib.hid (DBox.start (c1 := c1) (c2 := c2) (L := L) S hx hy hS)
  have H := Lib.hid hd
  have hsg := hd.1
  have hmt := hd.2.1
  have hnl : (strandsL sg mt).length ≤ 256 := by
    have h1 := strandsL_most sg mt
    omega
  have HMT := Lib.hid hmt
  have hmm := make_mapP (sg.length : Int)
  clear hx hy hS hd hmt
  have k0 := HD.out.c0
  have k1 := HD.out.c1
  have k2 := HD.out.c2
  have HD1 := Lib.hid (HD.out.below ((Below.refl _ _).alloc (Nat.le_refl _) (.map #[] 0)))
  have q0 := HD1.out.c0
  have q1 := HD1.out.c1
  have q2 := HD1.out.c2
  go_enter Try.func85, Try.ntmps85
  go_wp2_with fail
  refine (strands_ok A1 A2 c1 c2 sg mt L _ (· < ((w.alloc (.cells #[.slice A1 sg.length c1, .slice A2 mt.length c2, .int .i64 L] 24)).alloc (.map #[] 0)).heap.size) HD1.out.rs HD1.out.rm (fun _ h => h) H.out).mono ?_
  rintro e w1 ⟨v, rfl, hr, hb⟩
  obtain ⟨As, cs, rfl, hrl⟩ := hr.reads
  rw [rows_cycs_length]
  have HB1 := Lib.hid ((((Below.refl w.heap.size w).alloc (Nat.le_refl _) (.cells #[.slice A1 sg.length c1, .slice A2 mt.length c2, .int .i64 L] 24)).alloc (by simp) (.map #[] 0)).trans (hb.mono (by simp; omega)))
  obtain ⟨bm, hbm⟩ : ∃ b, w.heap.size + 1 = b := ⟨_, rfl⟩
  have hz1 := hb.size
  have HRL := Lib.hid (hrl.imp (T := fun b => bm < b ∧ b < w1.heap.size) fun b h => ⟨by have := h.1; simp at this; omega, h.2⟩)
  have HM0 : Hid (PmS w1 w1 bm 0 (.map []) (aU sg mt 0 0 0) (aU sg mt 1 0 0)) := by
    refine ⟨Below.refl _ _, fun _ _ _ => rfl, ?_, ?_, ?_, ?_⟩
    · have hm := World.ownsMap_made (H := Unit) (w.alloc (.cells #[.slice A1 sg.length c1, .slice A2 mt.length c2, .int .i64 L] 24)) Try.prog 3 pairR
      have e : (w.alloc (.cells #[.slice A1 sg.length c1, .slice A2 mt.length c2, .int .i64 L] 24)).heap.size = bm := by simp; omega
      rw [e] at hm
      exact ownsMap_same hm (hb.block bm (by simp; omega))
    · have e0 : aU sg mt 0 0 0 = fun _ => 0 := funext (aU_zero 0)
      have e1 : aU sg mt 1 0 0 = fun _ => 0 := funext (aU_zero 1)
      rw [e0, e1]; exact PmD.start
    · simp at hz1; omega
    · exact Nat.le_refl _
  have hb1 : bm < w1.heap.size := by simp at hz1; omega
  obtain ⟨ns, hns⟩ : ∃ n, (strandsL sg mt).length = n := ⟨_, rfl⟩
  have HNS := Lib.hid hns
  have HBM := Lib.hid hbm
  rw [hns] at hnl ⊢
  rw [hbm]
  clear hr hrl hb hns hbm hz1 k0 k1 k2 q0 q1 q2 hmm HD HD1
  go_wp2_with fail
  go_loopw [16] (fun i' wr => ∃ (i n : Nat) (D : DataW Unit), i ≤ ns ∧ n ≤ 256 * i ∧ i' = .int .i64 i ∧ Hid (PmS w1 wr bm n D (aU sg mt 0 i 0) (aU sg mt 1 i 0))) (fun i' _ => ns - (intOf i').toNat)
  case atStart => exact ⟨0, 0, _, Nat.zero_le _, Nat.zero_le _, rfl, HM0⟩
  case round =>
    clear HM0
    obtain ⟨i, n, D, hi, hn, rfl, HM⟩ := hrel
    by_cases hlt : i < ns
    · have hil : i < (strandsL sg mt).length := by rw [HNS.out]; exact hlt
      have hrl := HRL.out.keep (w' := wr) (fun b h => HM.out.keep b h.2 (by omega))
      obtain ⟨b, off, rfl, -, hc⟩ := hrl.at_ (k := i) (by rw [rows_cycs_length]; exact hil)
      obtain ⟨Ak, ck, k3, r3, -⟩ := hc i (by rw [rows_cycs_length]; exact hil)
      rw [rows_getD hil, stN_eq hil] at k3 r3
      have HR3 : Hid (RI w1 (fun b => bm < b ∧ b < w1.heap.size) Ak (ints (stN sg mt i))) := r3.keep (fun b h => (HM.out.keep b h.2 (by omega)).symm)
      obtain ⟨p, hp⟩ : ∃ p, (stN sg mt i).length = p := ⟨_, rfl⟩
      have hp1 : p ≤ 256 := by
        rw [← hp]
        have h1 := stN_len H.out.2.2.2.2.2.1 H.out.2.1 hil
        have h2 := HMT.out
        omega
      have HP := Lib.hid hp
      rw [ints_length, hp] at k3
      have HIL := Lib.hid hil
      clear hrl hc r3 hp hil
      go_wp2_with fail
      clear k3
      go_loopw [23] (fun j' wr => ∃ (j m : Nat) (D : DataW Unit), j ≤ p ∧ m ≤ n + j ∧ j' = .int .i64 j ∧ Hid (PmS w1 wr bm m D (aU sg mt 0 i j) (aU sg mt 1 i j))) (fun j' _ => p - (intOf j').toNat)
      case atStart => exact ⟨0, n, D, Nat.zero_le _, Nat.le_refl _, rfl, HM⟩
      case round =>
        clear HM
        obtain ⟨j, m, D, hj, hm, rfl, HM⟩ := hrel
        by_cases hjl : j < p
        · have hjs : j < (stN sg mt i).length := by rw [HP.out]; exact hjl
          have hr := HR3.out.keep (w' := wr) (fun b h => HM.out.keep b h.2 (by omega))
          obtain ⟨b2, off2, rfl, -, hc⟩ := hr.at_ (k := j) (by rw [ints_length]; exact hjs)
          have c1 := hc j (by rw [ints_length]; exact hjs)
          rw [gi_ints hjs] at c1
          have hxl := (st_lt H.out HIL.out hjs).1
          have ha0 := aU_step H.out HIL.out hjs (s := 0) (by omega)
          have ha1 := aU_step H.out HIL.out hjs (s := 1) (by omega)
          obtain ⟨x, hx⟩ : ∃ x, gN (stN sg mt i) j = x := ⟨_, rfl⟩
          simp only [hx] at c1 hxl ha0 ha1
          have hcl : x / 4 < sg.length := by have := HMT.out; omega
          have hat := HM.out.pm.at_ (x / 4)
          obtain ⟨c, hc4⟩ : ∃ c, x / 4 = c := ⟨_, rfl⟩
          rw [hc4] at hcl hat
          simp only [hc4] at ha0 ha1
          obtain ⟨u, hu⟩ : ∃ u, aU sg mt 0 i j c = u := ⟨_, rfl⟩
          obtain ⟨o, ho⟩ : ∃ o, aU sg mt 1 i j c = o := ⟨_, rfl⟩
          rw [hu, ho] at hat
          have hkey := key_int (show c ≤ 1099511627776 by omega)
          have hlk := look_pair HM.out.map hkey hat
          have s2 : (x : Int).tdiv 4 = (c : Int) := by rw [Int.tdiv_eq_ediv_of_nonneg (by omega)]; omega
          have s3 : IntKind.i64.wrap (c : Int) = (c : Int) := IntWalk.i64_in _ (by omega)
          have HA0 := Lib.hid ha0
          have HA1 := Lib.hid ha1
          have HU := Lib.hid hu
          have HO := Lib.hid ho
          clear hr hc hx hat ha0 ha1 hu ho hjs hc4
          by_cases hr0 : x % 2 = 0
          · have m1 : (x : Int).tmod 2 = 0 := by rw [Int.tmod_eq_emod_of_nonneg (by omega)]; omega
            have m2 : (x : Int) % 2 = 0 := by omega
            go_wp2_with (first
              | (at_mapUpdate; refine wpList_mapUpdate_own _ rfl _ _ _ 93 rfl 3 95 keyed_int Try.underlying93 pairR bm m _ rfl (HM.out.map.alloc _) (by unfold maxLen; omega) _ _ _ rfl rfl hkey _ [] (pairR_mk _ _) ?_; intro w8 hown8 hgrow8)
              | go_in)
            have HM' : Hid (PmS w1 w8 bm (m + 1) (D.put (.int .i64 (c : Int)) (.agg [.lit (.int .i64 (i : Int)), .lit (.int .i64 (o : Int))])) (aU sg mt 0 i (j + 1)) (aU sg mt 1 i (j + 1))) := by
              refine HM.out.put hown8 hgrow8 HM.out.bel4 (fun c' => ?_) (fun c' => ?_)
              · rw [HA0.out c']
                by_cases e : c' = c
                · subst e; rw [if_pos ⟨rfl, hr0.symm⟩, if_pos rfl]
                · rw [if_neg (fun h => e h.1), if_neg e]
              · rw [HA1.out c']
                by_cases e : c' = c
                · subst e; rw [if_neg (by omega), if_pos rfl, HO.out]
                · rw [if_neg (fun h => e h.1), if_neg e]
            clear hown8 hgrow8 hlk hkey m1 m2 s2 s3 HA0 HA1 HM c1
            go_roundw
            case rel => exact ⟨j + 1, m + 1, _, by omega, by omega, by go_num, HM'⟩
            case measure => simp [intOf]; omega
          · have m1 : (x : Int).tmod 2 = 1 := by rw [Int.tmod_eq_emod_of_nonneg (by omega)]; omega
            have m2 : (x : Int) % 2 = 1 := by omega
            go_wp2_with (first
              | (at_mapUpdate; refine wpList_mapUpdate_own _ rfl _ _ _ 93 rfl 3 95 keyed_int Try.underlying93 pairR bm m _ rfl (HM.out.map.alloc _) (by unfold maxLen; omega) _ _ _ rfl rfl hkey _ [] (pairR_mk _ _) ?_; intro w8 hown8 hgrow8)
              | go_in)
            have HM' : Hid (PmS w1 w8 bm (m + 1) (D.put (.int .i64 (c : Int)) (.agg [.lit (.int .i64 (u : Int)), .lit (.int .i64 (i : Int))])) (aU sg mt 0 i (j + 1)) (aU sg mt 1 i (j + 1))) := by
              refine HM.out.put hown8 hgrow8 HM.out.bel4 (fun c' => ?_) (fun c' => ?_)
              · rw [HA0.out c']
                by_cases e : c' = c
                · subst e; rw [if_neg (by omega), if_pos rfl, HU.out]
                · rw [if_neg (fun h => e h.1), if_neg e]
              · rw [HA1.out c']
                by_cases e : c' = c
                · subst e; rw [if_pos ⟨rfl, by omega⟩, if_pos rfl]
                · rw [if_neg (fun h => e h.1), if_neg e]
            clear hown8 hgrow8 hlk hkey m1 m2 s2 s3 HA0 HA1 HM c1
            go_roundw
            case rel => exact ⟨j + 1, m + 1, _, by omega, by omega, by go_num, HM'⟩
            case measure => simp [intOf]; omega
        · obtain rfl : p = j := by omega
          have HM' : Hid (PmS w1 wr bm m D (aU sg mt 0 (i + 1) 0) (aU sg mt 1 (i + 1) 0)) := by
            rw [funext (aU_next H.out HIL.out 0), funext (aU_next H.out HIL.out 1), HP.out]; exact HM.out
          clear HM hjl HR3
          go_wp2_with fail
          go_roundw
          case rel => exact ⟨i + 1, m, D, by omega, by omega, by go_num, HM'⟩
          case measure => simp [intOf]; omega
    · obtain rfl : ns = i := by omega
      have hz := HB1.out.size
      have HBF := Lib.hid (HB1.out.trans (HM.out.bel.mono (show w.heap.size ≤ bm by have := HBM.out; omega)))
      clear hlt HRL
      go_wp2_with fail
      go_ret
      exact ⟨bm, n, D, rfl, by have := HBM.out; omega, HM.out.lt, HM.out.map, by rw [HNS.out]; exact HM.out.pm, HBF.out⟩
end
end Go.Proofs.Ytcjgfncbecbhjaa

