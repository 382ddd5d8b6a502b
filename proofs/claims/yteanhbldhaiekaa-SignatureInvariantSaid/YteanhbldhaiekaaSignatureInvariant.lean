/-
  A list of steps that came in.
  The law SignatureInvariant, walked: the call returns true and writes nothing that was there.
-/
import Derived.Test.YteanhbldhaiekaaElm
import Derived.Test.YteanhbldhaiekaaMArg
import Derived.Laws.IdiomArrays
import Derived.BigQuiet
namespace Go.Proofs.Yteanhbldhaiekaa
open Go.ChangeShapes Go.WideShapes Go.RowKit Go.Joins

/-- a slice of triples of small integers that came in -/
structure StA (w : World) (A : Option Addr) (ss : List (Int × Int × Int)) : Prop where
  ln : ss.length ≤ maxLen
  rd : ss ≠ [] → ∃ b off, A = some ⟨b, off, none⟩ ∧ b < w.heap.size ∧ ∀ k, k < ss.length → w.cell? ⟨b, off + k * 3, none⟩ = some (.int .i8 (ss.getD k (0, 0, 0)).1) ∧ w.cell? ⟨b, off + k * 3 + 1, none⟩ = some (.int .i8 (ss.getD k (0, 0, 0)).2.1) ∧ w.cell? ⟨b, off + k * 3 + 2, none⟩ = some (.int .i8 (ss.getD k (0, 0, 0)).2.2)
  rg : ∀ k, (-128 ≤ (ss.getD k (0, 0, 0)).1 ∧ (ss.getD k (0, 0, 0)).1 ≤ 127) ∧ (-128 ≤ (ss.getD k (0, 0, 0)).2.1 ∧ (ss.getD k (0, 0, 0)).2.1 ≤ 127) ∧ (-128 ≤ (ss.getD k (0, 0, 0)).2.2 ∧ (ss.getD k (0, 0, 0)).2.2 ≤ 127)
theorem StA.call {w w' : World} {A : Option Addr} {ss : List (Int × Int × Int)} (h : StA w A ss) (hb : Below w.heap.size w w') : StA w' A ss :=
  ⟨h.ln, fun hne => by
    obtain ⟨b, off, e, hl, hc⟩ := h.rd hne
    have c : ∀ o, w'.cell? ⟨b, o, none⟩ = w.cell? ⟨b, o, none⟩ := fun o => World.cell?_of_block (a := ⟨b, o, none⟩) (hb.block b hl)
    exact ⟨b, off, e, Nat.lt_of_lt_of_le hl hb.size, fun k hk => by obtain ⟨h0, h1, h2⟩ := hc k hk; exact ⟨(c _).trans h0, (c _).trans h1, (c _).trans h2⟩⟩, h.rg⟩
theorem i8_wf {n : Int} (h : (Lit.int .i8 n).wf = true) : -128 ≤ n ∧ n ≤ 127 := by
  have hmin : IntKind.i8.min = -128 := rfl
  have hmax : IntKind.i8.max = 127 := rfl
  simp only [Lit.wf, Bool.and_eq_true, decide_eq_true_eq] at h
  omega
set_option maxRecDepth 100000 in
theorem sarg_open {H : Type} {enc : TypeId × Value → H} {W : World} {base n : Nat} {held : Bool} {x : Value} {y : DataW H × List MemPlace}
    (g : DataW.trod enc Try.prog W base (fun _ => true) held n 43 [x] = some y) : ∃ A c ss, x = .slice A (ss : List (Int × Int × Int)).length c ∧ StA W A ss := by
  rcases DataW.trod_slice Try.underlying43 g with ⟨hcs, _⟩ | ⟨a, len, cap, elems, rest, n', _, hcs, _, hb, hl, hm, hlen, hel, hsp, hns⟩
  · injection hcs with hcs
    exact ⟨none, 0, [], hcs, Nat.zero_le _, fun h => absurd rfl h, fun k => by simp⟩
  · injection hcs with hcs
    have each : ∀ i : Nat, ∃ s : Int × Int × Int, (i < len → W.cell? (a.add (i * 3)) = some (.int .i8 s.1) ∧ W.cell? (a.add (i * 3 + 1)) = some (.int .i8 s.2.1) ∧ W.cell? (a.add (i * 3 + 2)) = some (.int .i8 s.2.2)) ∧
        (-128 ≤ s.1 ∧ s.1 ≤ 127) ∧ (-128 ≤ s.2.1 ∧ s.2.1 ≤ 127) ∧ (-128 ≤ s.2.2 ∧ s.2.2 ≤ 127) := by
      intro i
      by_cases hi : i < len
      · have h1 := hel i hi
        have h2 : elems[i]? = some (elems[i]'(by omega)) := List.getElem?_eq_getElem (by omega)
        rw [h2, show Try.prog.cellsOf 45 = 3 by kernel_rfl, Option.bind_eq_some_iff] at h1
        obtain ⟨cs', hc1, hc2⟩ := h1
        obtain ⟨-, hl3, hcell⟩ := World.cells?_some hc1
        match cs', hl3 with
        | [c0, c1, c2], _ =>
          obtain ⟨y0, y1, y2, m, -, g0, g1, g2⟩ := trod_array3 Try.underlying45 (by kernel_rfl) hc2
          obtain ⟨L0, e0, -, w0⟩ := DataW.trod_int Try.underlying44 g0
          obtain ⟨L1, e1, -, w1⟩ := DataW.trod_int Try.underlying44 g1
          obtain ⟨L2, e2, -, w2⟩ := DataW.trod_int Try.underlying44 g2
          injection e0 with e0
          injection e1 with e1
          injection e2 with e2
          subst e0 e1 e2
          have k0 := hcell 0 (by decide)
          have k1 := hcell 1 (by decide)
          have k2 := hcell 2 (by decide)
          rw [Addr.add_add] at k0 k1 k2
          exact ⟨(L0, L1, L2), fun _ => ⟨k0, k1, k2⟩, i8_wf w0, i8_wf w1, i8_wf w2⟩
      · exact ⟨(0, 0, 0), fun h => absurd h hi, by simp, by simp, by simp⟩
    obtain ⟨f, hf⟩ := Classical.axiomOfChoice each
    have hl2 : ((List.range len).map f).length = len := by simp
    refine ⟨some a, cap, (List.range len).map f, by rw [hl2]; exact hcs, by rw [hl2]; omega, fun hne => ?_, fun k => ?_⟩
    · have hpos : 0 < len := by
        rcases Nat.eq_zero_or_pos len with h | h
        · subst h; simp at hne
        · exact h
      obtain ⟨⟨h0, -, -⟩, -⟩ := (hf 0).imp_left fun h => h hpos
      have e0 : a.add (0 * 3) = a := by simp [Addr.add]
      rw [e0] at h0
      have hsp := World.cell?_spot h0
      obtain ⟨b, off, sp⟩ := a
      simp only at hsp
      subst hsp
      refine ⟨b, off, rfl, World.block_lt_of_cell? W _ h0, fun k hk => ?_⟩
      rw [hl2] at hk
      obtain ⟨k0, k1, k2⟩ := (hf k).1 hk
      have e : ((List.range len).map f).getD k (0, 0, 0) = f k := by simp [hk]
      rw [e]
      rw [Addr.add_lit] at k0 k1 k2
      exact ⟨k0, k1, k2⟩
    · by_cases hk : k < len
      · have e : ((List.range len).map f).getD k (0, 0, 0) = f k := by simp [hk]
        rw [e]
        exact (hf k).2
      · have e : ((List.range len).map f).getD k (0, 0, 0) = (0, 0, 0) := by simp [hk]
        rw [e]
        simp
/-- the index that a small number gives -/
theorem idx_of (s : Int) (n : Nat) (hn : 0 < n) (h5 : n ≤ 5) : ∃ (u : Int) (v i : Nat), s.tmod (n : Int) = u ∧ -5 < u ∧ u < 5 ∧ u + (n : Int) = (v : Int) ∧ v ≤ 10 ∧ (v : Int).tmod (n : Int) = (i : Int) ∧ (v : Int) % (n : Int) = (i : Int) ∧ i < n := by
  have h1 : s.tmod (n : Int) < n := Int.tmod_lt_of_pos _ (by omega)
  have h2 : -(n : Int) < s.tmod (n : Int) := by
    have := Int.tmod_lt_of_pos (-s) (show (0 : Int) < n by omega)
    rw [Int.neg_tmod] at this
    omega
  obtain ⟨u, hu⟩ : ∃ u, s.tmod (n : Int) = u := ⟨_, rfl⟩
  rw [hu] at h1 h2
  obtain ⟨v, hv⟩ : ∃ v : Nat, u + (n : Int) = v := ⟨(u + n).toNat, by omega⟩
  have h3 : (v : Int).tmod (n : Int) = ((v % n : Nat) : Int) := by rw [Int.tmod_eq_emod_of_nonneg (by omega)]; exact (Int.natCast_emod v n).symm
  exact ⟨u, v, v % n, hu, by omega, by omega, hv, by omega, h3, (Int.natCast_emod v n).symm, Nat.mod_lt _ hn⟩
section
variable (A B : Option Addr) (ca cb : Nat) (xa : List (List Int)) (ss : List (Int × Int × Int)) (w : World) (ha : AM w A xa.length xa) (hs : StA w B ss)
include ha hs
set_option maxRecDepth 100000 in
set_option maxHeartbeats 8000000 in
theorem siv_a (h : ¬ ((boL xa).length = xa.length ∧ (boL xa).length ≤ 5 ∧ 0 < (boL xa).length ∧ ss.length ≤ 6)) : Calls Try.prog 8 #[.slice A xa.length ca, .slice B ss.length cb] w fun e w' => e = .returned (.bool true) ∧ Below w.heap.size w w' := by
  have HM_0 := Lib.hid ha
  have HH := Lib.hid h
  obtain ⟨nm, hnm⟩ : ∃ n, xa.length = n := ⟨_, rfl⟩
  obtain ⟨ns, hns⟩ : ∃ n, ss.length = n := ⟨_, rfl⟩
  rw [hnm] at HM_0 HH ⊢
  have hsl := hs.ln
  rw [hns] at HH hsl ⊢
  have hm64 := HM_0.out.nl
  unfold maxLen at hm64 hsl
  clear ha h hnm hs hns
  go_enter Try.func8, Try.ntmps8
  go_wp2_with fail
  refine (awake39 w).mono ?_
  rintro e w1 ⟨rfl, hb⟩
  have HM_1 := Lib.hid (HM_0.out.call hb)
  have HB_1 := Lib.hid hb
  clear hb HM_0
  go_wp2_with fail
  refine (both_any (cap := ca) HM_1.out).mono ?_
  rintro e w2 ⟨A1, n1, c1, rfl, hx, hb⟩
  have HB_2 := Lib.hid (below_cons HB_1.out hb)
  have hnx := hx.ln
  have h6x := (bo_all xa).1
  clear hb hx HM_1 HB_1
  have hh := HH.out
  rw [hnx] at hh h6x
  clear hnx HH
  by_cases e1 : n1 = nm
  · have z0 : ((n1 : Int) != (nm : Int)) = false := by rw [bne_eq_false_iff_eq]; omega
    by_cases g1 : 5 < n1
    · clear hh
      go_wp2_with fail
      go_ret
      exact ⟨rfl, HB_2.out⟩
    · by_cases g2 : n1 = 0
      · have z1 : ((n1 : Int) == 0) = true := by rw [beq_iff_eq]; omega
        clear hh
        go_wp2_with fail
        go_ret
        exact ⟨rfl, HB_2.out⟩
      · have z1 : ((n1 : Int) == 0) = false := by rw [beq_eq_false_iff_ne]; omega
        have g3 : 6 < ns := by omega
        clear hh
        go_wp2_with fail
        go_ret
        exact ⟨rfl, HB_2.out⟩
  · have z1 : ((n1 : Int) != (nm : Int)) = true := by rw [bne_iff_ne]; omega
    clear hh
    go_wp2_with fail
    go_ret
    exact ⟨rfl, HB_2.out⟩
set_option maxRecDepth 100000 in
set_option maxHeartbeats 16000000 in
theorem siv_b (h : (boL xa).length = xa.length ∧ (boL xa).length ≤ 5 ∧ 0 < (boL xa).length ∧ ss.length ≤ 6) : Calls Try.prog 8 #[.slice A xa.length ca, .slice B ss.length cb] w fun e w' => e = .returned (.bool true) ∧ Below w.heap.size w w' := by
  have HM_0 := Lib.hid ha
  have HS_0 := Lib.hid hs
  obtain ⟨h1, h2, h3, h4⟩ := h
  have HX := Lib.hid h1
  obtain ⟨nm, hnm⟩ : ∃ n, xa.length = n := ⟨_, rfl⟩
  obtain ⟨ns, hns⟩ : ∃ n, ss.length = n := ⟨_, rfl⟩
  rw [h1] at h2 h3
  rw [hnm] at HM_0 HX h2 h3 ⊢
  have HNS := Lib.hid hns
  rw [hns] at h4 ⊢
  clear ha hnm hs hns h1
  go_enter Try.func8, Try.ntmps8
  go_wp2_with fail
  refine (awake39 w).mono ?_
  rintro e w1 ⟨rfl, hb⟩
  have HM_1 := Lib.hid (HM_0.out.call hb)
  have HS_1 := Lib.hid (HS_0.out.call hb)
  have HB_1 := Lib.hid hb
  clear hb HM_0 HS_0
  go_wp2_with fail
  refine (both_any (cap := ca) HM_1.out).mono ?_
  rintro e w2 ⟨A1, n1, c1, rfl, hx, hb⟩
  have HX_2 := Lib.hid hx
  have HS_2 := Lib.hid (HS_1.out.call hb)
  have HB_2 := Lib.hid (below_cons HB_1.out hb)
  have hnx := hx.ln
  clear hb hx HM_1 HB_1 HS_1
  obtain rfl : n1 = nm := by rw [← hnx]; exact HX.out
  clear hnx
  obtain ⟨-, hMx, hSx, -⟩ := bo_all xa
  obtain ⟨x, hx⟩ : ∃ x, boL xa = x := ⟨_, rfl⟩
  rw [hx] at HX_2 HX hMx hSx
  have HQX : Hid (SqM n1 x) := Lib.hid ⟨HX.out, hMx, hSx⟩
  have H1 := Lib.hid (in_09 hMx hSx)
  clear hMx hSx hx HX
  have z0 : ((n1 : Int) != (n1 : Int)) = false := by rw [bne_eq_false_iff_eq]
  have z1 : ((n1 : Int) == 0) = false := by rw [beq_eq_false_iff_ne]; omega
  go_wp2_with fail
  refine (inertia_any (cap := c1) HX_2.out).mono ?_
  rintro e w3 ⟨p, q, z, rfl, hA, hb⟩
  have HA := Lib.hid hA
  have HX_3 := Lib.hid (HX_2.out.call hb)
  have HS_3 := Lib.hid (HS_2.out.call hb)
  have HB_3 := Lib.hid (below_cons HB_2.out hb)
  clear hA hb HX_2 HB_2 HS_2
  rcases H1.out with he | he
  case inr =>
    rw [he]
    clear he HA
    go_wp2_with fail
    go_ret
    exact ⟨rfl, HB_3.out⟩
  case inl =>
    have HIN : Hid (Inr n1 (eI x) p q ∧ z = (n1 : Int) - p - q) := Lib.hid (by
      have h := HA.out
      unfold InA at h
      rw [if_pos he, HQX.out.1] at h
      exact ⟨h.2.2.1, h.2.1⟩)
    rw [he]
    clear he HA H1
    go_wp2_with fail
    clear z0 z1
    go_loopw [11, 65] (fun v j' wr => ∃ (j : Nat) (Aj : Option Addr) (cj : Nat) (y : List (List Int)), j ≤ ns ∧ j' = .int .i64 j ∧ v = .slice Aj n1 cj ∧ Hid (AM wr Aj n1 y) ∧ Hid (SqM n1 y) ∧ Hid (∀ r s, Inr n1 (eI y) r s → Inr n1 (eI x) r s) ∧ Hid (Below w3.heap.size w3 wr)) (fun _ j _ => ns - (intOf j).toNat)
    case atStart => exact ⟨0, A1, c1, x, Nat.zero_le _, rfl, rfl, HX_3, HQX, fun r s h => h, Below.refl _ _⟩
    case round =>
      obtain ⟨j, Aj, cj, y, hj, rfl, rfl, HY, HQ, HI, HC⟩ := hrel
      by_cases hlt : j < ns
      · obtain ⟨b, off, rfl, hbl, hc⟩ := (HS_3.out.call HC.out).rd (by intro e; have := HNS.out; rw [e] at this; simp at this; omega)
        obtain ⟨k0, k1, k2⟩ := hc j (by rw [HNS.out]; exact hlt)
        obtain ⟨r0, r1, r2⟩ := HS_3.out.rg j
        obtain ⟨s0, hs0⟩ : ∃ s0, (ss.getD j (0, 0, 0)).1 = s0 := ⟨_, rfl⟩
        obtain ⟨s1, hs1⟩ : ∃ s1, (ss.getD j (0, 0, 0)).2.1 = s1 := ⟨_, rfl⟩
        obtain ⟨s2, hs2⟩ : ∃ s2, (ss.getD j (0, 0, 0)).2.2 = s2 := ⟨_, rfl⟩
        rw [hs0] at k0 r0
        rw [hs1] at k1 r1
        rw [hs2] at k2 r2
        clear hc hs0 hs1 hs2
        obtain ⟨u0, v0, i0, f1, f2, f3, f4, f5, f6, f7, hi0⟩ := idx_of s0 n1 h3 h2
        obtain ⟨u1, v1, i1, g1, g2, g3, g4, g5, g6, g7, hi1⟩ := idx_of s1 n1 h3 h2
        have q0 := World.cell?_alloc_new wr #[.int .i8 s0, .int .i8 s1, .int .i8 s2] 45
        obtain ⟨w5, hw5⟩ : ∃ w5, wr.alloc (.cells #[.int .i8 s0, .int .i8 s1, .int .i8 s2] 45) = w5 := ⟨_, rfl⟩
        have HC5 : Hid (Below wr.heap.size wr w5) := Lib.hid (by rw [← hw5]; exact (Below.refl _ _).alloc (Nat.le_refl _) _)
        have hs5 : wr.heap.size < w5.heap.size := by rw [← hw5]; simp
        rw [hw5] at q0
        have l0 : w5.cell? ⟨wr.heap.size, 0, none⟩ = some (.int .i8 s0) := q0 0
        have l1 : w5.cell? ⟨wr.heap.size, 1, none⟩ = some (.int .i8 s1) := q0 1
        have l2 : w5.cell? ⟨wr.heap.size, 2, none⟩ = some (.int .i8 s2) := q0 2
        clear q0
        go_upto_region 14 with fail
        first | rw [hw5] | skip
        clear k0 k1 k2 hw5
        have y0 : IntKind.i64.wrap s0 = s0 := IntWalk.i64_in _ (by omega)
        have y1 : IntKind.i64.wrap s1 = s1 := IntWalk.i64_in _ (by omega)
        have y2 : IntKind.i64.wrap (u0 + (n1 : Int)) = (v0 : Int) := by rw [f4]; exact IntWalk.i64_in _ (by omega)
        have y3 : IntKind.i64.wrap (u1 + (n1 : Int)) = (v1 : Int) := by rw [g4]; exact IntWalk.i64_in _ (by omega)
        have z1 : ((n1 : Int) == 0) = false := by rw [beq_eq_false_iff_ne]; omega
        go_quiet (fail)
        have HC6 : Hid (Below wr.heap.size wr (w5.drewN nq)) := Lib.hid (below_drewN HC5.out nq)
        have hs6 : wr.heap.size < (w5.drewN nq).heap.size := hs5
        replace l2 : (w5.drewN nq).cell? ⟨wr.heap.size, 2, none⟩ = some (.int .i8 s2) := l2
        clear l0 l1 f1 f2 f3 f4 f5 f6 f7 g1 g2 g3 g4 g5 g6 g7 y0 y1 y2 y3 HC5 hs5
        generalize w5.drewN nq = w6 at HC6 hs6 l2 ⊢
        go_wp2_with fail
        obtain ⟨w4, rfl⟩ : ∃ x : World, x = wr := ⟨_, rfl⟩
        go_loopw [16, 88] (fun v a' wr => ∃ (a : Nat) (bs : Nat → Nat), a ≤ n1 ∧ a' = .int .i64 a ∧ Hid (MJ wr w6.heap.size n1 a v bs idM) ∧ Hid (Below w6.heap.size w6 wr)) (fun _ a _ => n1 - (intOf a).toNat)
        case atStart => exact ⟨0, _, Nat.zero_le _, rfl, (MJ.nil w6 _ n1).congr fun i j hi => by omega, Below.refl _ _⟩
        case round =>
          obtain ⟨a, bs, ha, rfl, HM, HD⟩ := hrel
          by_cases hlta : a < n1
          · have hmk := make_ints 33 Try.underlying33 n1 (by omega)
            have hszr := HD.out.size
            have hr : Hid (Array.replicate n1 (Value.int .i64 0) = (List.replicate n1 (Value.int .i64 0)).toArray) := Lib.hid (by simp)
            have c0 : (wr.alloc (.cells (Array.replicate n1 (Value.int .i64 0)) 3)).cell? ⟨wr.heap.size, a, none⟩ = some (.int .i64 0) := by rw [hr.out]; exact (cell_rep hlta).1
            have z0 : (wr.alloc (.cells (Array.replicate n1 (Value.int .i64 0)) 3)).frozen? ⟨wr.heap.size, a, none⟩ = false := by rw [hr.out]; exact (cell_rep hlta).2
            have HB7 : Hid (Below wr.heap.size wr (wr.alloc (.cells ((Array.replicate n1 (Value.int .i64 0)).setIfInBounds a (.int .i64 1)) 3))) := Lib.hid ((Below.refl _ _).alloc (Nat.le_refl _) _)
            have HO7 : Hid (OI (wr.alloc (.cells ((Array.replicate n1 (Value.int .i64 0)).setIfInBounds a (.int .i64 1)) 3)) w6.heap.size (.slice (some ⟨wr.heap.size, 0, none⟩) n1 n1) (rowF n1 (idM a))) := Lib.hid (by
              rw [← World.setCell_alloc_new]
              have h := OI.new wr w6.heap.size n1 hszr (by unfold maxLen; omega)
              rw [rowF_rep, ← hr.out] at h
              have h2 := OR.stored (e := 3) (f := Value.int .i64) (xs := rowF n1 fun _ => 0) (k := a) (c := n1) (g := wr.heap.size) (by rw [rowF_len]; exact h) 1
              rw [List.length_set, rowF_len, rowF_set] at h2
              rw [rowF_congr (g := fun x => if x = a then 1 else 0) fun x _ => by unfold idM; by_cases e : a = x <;> simp [e, eq_comm]]
              exact h2)
            have HM7 := Lib.hid (HM.out.below HB7.out (Nat.le_refl _))
            have HOW := Lib.hid HM7.out.ow
            have HNB : Hid (∀ i, i < a → bs i ≠ wr.heap.size) := Lib.hid fun i hi e => by have := (HM.out.lo hi).2; omega
            have HLN : Hid (((List.range a).map fun i => Value.slice (some ⟨bs i, 0, none⟩) n1 n1).length < 1099511627776) := Lib.hid (by rw [List.length_map, List.length_range]; omega)
            have HBW := Lib.hid (HD.out.trans (HB7.out.mono hszr))
            have hszw := HBW.out.size
            obtain ⟨Au, cu, hvu, -, -, -⟩ := HOW.out.shape
            rw [List.length_map, List.length_range] at hvu
            subst hvu
            go_upto_region 21 with fail
            generalize wr.alloc (.cells ((Array.replicate n1 (Value.int .i64 0)).setIfInBounds a (.int .i64 1)) 3) = w7 at HB7 HO7 HM7 HOW HBW hszw ⊢
            clear c0 z0 hmk hr
            go_wp2_with (at_builtin; refine app_row (f := id) (y := Value.slice (some ⟨wr.heap.size, 0, none⟩) n1 n1) row_info rfl (by decide) rfl HOW.out HLN.out hszw rfl rfl Try.underlying22 rfl rfl ?_; intro v' w' ho hg hob)
            have HM8 : Hid (MJ w' w6.heap.size n1 (a + 1) v' (up bs a wr.heap.size) idM) := Lib.hid ((HM7.out.push HO7.out HNB.out ho hg).congr fun i j hi hj => by
              unfold up
              by_cases e : i = a
              · rw [if_pos e, e]
              · rw [if_neg e])
            have HD8 := Lib.hid (HOW.out.grown_below HBW.out hszw _ hg)
            clear ho hg hob HM7 HO7 HOW HNB HLN HBW hszw HB7
            go_roundw
            case rel => exact ⟨a + 1, _, by omega, by go_num, HM8, HD8⟩
            case measure => simp [intOf]; omega
          · obtain rfl : a = n1 := by omega
            obtain ⟨g9, c9, rfl, hg1, hg2, hh⟩ := HM.out.hd h3
            have d1 := hh i0 hi0
            obtain ⟨d2, d3⟩ := HM.out.cell hi0 hi1
            have d4 : wr.cell? ⟨w4.heap.size, 2, none⟩ = some (.int .i8 s2) := (World.cell?_of_block (a := ⟨w4.heap.size, 2, none⟩) (HD.out.block _ hs6)).trans l2
            clear hh l2
            by_cases hii : i0 = i1
            · have HM8 : Hid (MJ (wr.setCell ⟨bs i0, i1, none⟩ (.int .i64 (-1))) w6.heap.size a a (.slice (some ⟨g9, 0, none⟩) a c9) bs (elT i0 i1 (-1))) := Lib.hid (HM.out.store (j := i1) hi0 (-1))
              have HB8 : Hid (Below w6.heap.size w6 (wr.setCell ⟨bs i0, i1, none⟩ (.int .i64 (-1)))) := Lib.hid (HD.out.setCell (HM.out.lo hi0).1 _)
              clear HM HD d4
              subst hii
              go_wp2_with fail
              generalize wr.setCell ⟨bs i0, i0, none⟩ (.int .i64 (-1)) = w8 at HM8 HB8 ⊢
              clear d1 d2 d3
              obtain ⟨gt, ct, ev, ham⟩ := HM8.out.am h3 (by unfold maxLen; omega) (fun a b ha hb => by
                unfold elT idM
                (repeat' split) <;> omega)
              injection ev with ev1 _ ev3
              injection ev1 with ev1
              injection ev1 with ev1
              subst ev1 ev3
              have HY8 := Lib.hid (HY.out.call (HC6.out.trans (HB8.out.mono HC6.out.size)))
              have HCG := Lib.hid (cong_any (ca := cj) (cb := c9) HY8.out ham)
              have HCA := Lib.hid (cgA_of (T := elT i0 i0 (-1)) HQ.out h3 (by omega))
              have HDT := Lib.hid (det_elT (t := (-1)) hi0 hi0 (by intro e; omega))
              have HC8 : Hid (Below w3.heap.size w3 w8) := Lib.hid (HC.out.trans ((HC6.out.trans (HB8.out.mono HC6.out.size)).mono HC.out.size))
              have HC0 := Lib.hid (below_cons HB_3.out HC8.out)
              clear ham HM8 HB8 HY8
              refine HCG.out.mono ?_
              rintro e w9 ⟨A9, n9, k9, rfl, hl9, hb9⟩
              rcases cg_09 HCA.out with he | he
              · obtain ⟨hsq, hen⟩ := cg_all HQ.out h3 (by omega) he
                obtain rfl : n9 = a := by have := hl9.ln; rw [hsq.1] at this; exact this.symm
                have HL9 := Lib.hid hl9
                have HSQ := Lib.hid hsq
                have HB9 := Lib.hid (HC8.out.trans (hb9.mono HC8.out.size))
                have HI9 : Hid (∀ r s, Inr n9 (eI (cgL y (mkL n9 n9 (elT i0 i0 (-1))))) r s → Inr n9 (eI x) r s) := Lib.hid fun r s h => HI.out r s (h.cong HDT.out hen)
                rw [he]
                clear he hl9 hb9 hsq hen HCG HC8 HDT HCA HC0
                go_wp2_with fail
                go_roundw
                case rel => exact ⟨j + 1, _, _, _, by omega, by go_num, rfl, HL9, HSQ, HI9, HB9⟩
                case measure => simp [intOf]; omega
              · have HB9 := Lib.hid (below_cons HC0.out hb9)
                rw [he]
                clear he hl9 hb9 HCG HC8 HDT HCA HC0
                go_wp2_with fail
                go_ret
                exact ⟨rfl, HB9.out⟩
            · obtain ⟨t2, ht2, t3, t4⟩ : ∃ t2, s2.tmod 3 = t2 ∧ -3 < t2 ∧ t2 < 3 := by
                refine ⟨_, rfl, ?_, Int.tmod_lt_of_pos _ (by decide)⟩
                have := Int.tmod_lt_of_pos (-s2) (show (0 : Int) < 3 by decide)
                rw [Int.neg_tmod] at this
                omega
              have z2 : ((i0 : Int) == (i1 : Int)) = false := by rw [beq_eq_false_iff_ne]; omega
              have y4 : IntKind.i64.wrap s2 = s2 := IntWalk.i64_in _ (by omega)
              have HM8 : Hid (MJ (wr.setCell ⟨bs i0, i1, none⟩ (.int .i64 t2)) w6.heap.size a a (.slice (some ⟨g9, 0, none⟩) a c9) bs (elT i0 i1 t2)) := Lib.hid (HM.out.store (j := i1) hi0 t2)
              have HB8 : Hid (Below w6.heap.size w6 (wr.setCell ⟨bs i0, i1, none⟩ (.int .i64 t2))) := Lib.hid (HD.out.setCell (HM.out.lo hi0).1 _)
              clear HM HD
              go_upto_region 25 with fail
              go_region
              replace HM8 := Lib.hid (HM8.out.heap (w' := (wr.setCell ⟨bs i0, i1, none⟩ (.int .i64 t2)).drew) rfl)
              replace HB8 := Lib.hid HB8.out.drew
              generalize (wr.setCell ⟨bs i0, i1, none⟩ (.int .i64 t2)).drew = w8 at HM8 HB8 ⊢
              clear d1 d2 d3 d4 z2 y4 ht2
              go_wp2_with fail
              obtain ⟨gt, ct, ev, ham⟩ := HM8.out.am h3 (by unfold maxLen; omega) (fun a b ha hb => by
                unfold elT idM
                (repeat' split) <;> omega)
              injection ev with ev1 _ ev3
              injection ev1 with ev1
              injection ev1 with ev1
              subst ev1 ev3
              have HY8 := Lib.hid (HY.out.call (HC6.out.trans (HB8.out.mono HC6.out.size)))
              have HCG := Lib.hid (cong_any (ca := cj) (cb := c9) HY8.out ham)
              have HCA := Lib.hid (cgA_of (T := elT i0 i1 t2) HQ.out h3 (by omega))
              have HDT := Lib.hid (det_elT (t := t2) hi0 hi1 (by intro e; omega))
              have HC8 : Hid (Below w3.heap.size w3 w8) := Lib.hid (HC.out.trans ((HC6.out.trans (HB8.out.mono HC6.out.size)).mono HC.out.size))
              have HC0 := Lib.hid (below_cons HB_3.out HC8.out)
              clear ham HM8 HB8 HY8
              refine HCG.out.mono ?_
              rintro e w9 ⟨A9, n9, k9, rfl, hl9, hb9⟩
              rcases cg_09 HCA.out with he | he
              · obtain ⟨hsq, hen⟩ := cg_all HQ.out h3 (by omega) he
                obtain rfl : n9 = a := by have := hl9.ln; rw [hsq.1] at this; exact this.symm
                have HL9 := Lib.hid hl9
                have HSQ := Lib.hid hsq
                have HB9 := Lib.hid (HC8.out.trans (hb9.mono HC8.out.size))
                have HI9 : Hid (∀ r s, Inr n9 (eI (cgL y (mkL n9 n9 (elT i0 i1 t2)))) r s → Inr n9 (eI x) r s) := Lib.hid fun r s h => HI.out r s (h.cong HDT.out hen)
                rw [he]
                clear he hl9 hb9 hsq hen HCG HC8 HDT HCA HC0
                go_wp2_with fail
                go_roundw
                case rel => exact ⟨j + 1, _, _, _, by omega, by go_num, rfl, HL9, HSQ, HI9, HB9⟩
                case measure => simp [intOf]; omega
              · have HB9 := Lib.hid (below_cons HC0.out hb9)
                rw [he]
                clear he hl9 hb9 HCG HC8 HDT HCA HC0
                go_wp2_with fail
                go_ret
                exact ⟨rfl, HB9.out⟩
      · obtain rfl : j = ns := by omega
        have H9 := Lib.hid (in_09 HQ.out.2.1 HQ.out.2.2)
        have HB_4 := Lib.hid (below_cons HB_3.out HC.out)
        go_wp2_with fail
        refine (inertia_any (cap := cj) HY.out).mono ?_
        rintro e w4 ⟨u, v, t, rfl, hA, hb⟩
        have HA := Lib.hid hA
        have HB_5 := Lib.hid (below_cons HB_4.out hb)
        clear hA hb
        rcases H9.out with he | he
        · have hall : u = p ∧ v = q ∧ t = z := by
            have h := HA.out
            unfold InA at h
            rw [if_pos he, HQ.out.1] at h
            obtain ⟨e1, e2⟩ := (HI.out u v h.2.2.1).uniq HIN.out.1
            refine ⟨e1, e2, ?_⟩
            rw [h.2.1, HIN.out.2, e1, e2]
          obtain ⟨rfl, rfl, rfl⟩ := hall
          rw [he]
          clear he HA HI HIN
          go_wp2_with fail
          go_ret
          exact ⟨rfl, HB_5.out⟩
        · rw [he]
          clear he HA HI HIN
          go_wp2_with fail
          go_ret
          exact ⟨rfl, HB_5.out⟩
end
theorem signatureInvariant_walk (A : Option Addr) (ca : Nat) (xa : List (List Int)) (B : Option Addr) (cb : Nat) (ss : List (Int × Int × Int)) (w : World) (ha : AM w A xa.length xa) (hs : StA w B ss) : Calls Try.prog 8 #[.slice A xa.length ca, .slice B ss.length cb] w fun e w' => e = .returned (.bool true) ∧ Below w.heap.size w w' := by
  by_cases h : (boL xa).length = xa.length ∧ (boL xa).length ≤ 5 ∧ 0 < (boL xa).length ∧ ss.length ≤ 6
  · exact siv_b A B ca cb xa ss w ha hs h
  · exact siv_a A B ca cb xa ss w ha hs h
end Go.Proofs.Yteanhbldhaiekaa

