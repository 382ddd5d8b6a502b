/-
  A step of Markov's that came in by value.
  The law SignatureMarkov, walked: the call returns true and writes nothing that was there.
-/
import Derived.Test.YteanhbldhaiekaaZ33
import Derived.Test.YteanhbldhaiekaaZ49
namespace Go.Proofs.Yteanhbldhaiekaa
open Go.ChangeShapes Go.WideShapes Go.RowKit Go.Joins

set_option maxRecDepth 100000 in
theorem kstep_open {H : Type} {enc : TypeId × Value → H} {W : World} {base b0 : Nat} {held : Bool} {r : Reach} {v : Value} {d : DataW H} {p : List MemPlace} (hv : Value.okWide Try.prog W r b0 52 v)
    (h : DataW.Trod enc Try.prog W base (fun _ => true) held 52 v d p) : ∃ k g a : Int, v = .agg #[.int .i64 k, .int .i64 g, .int .i64 a] := by
  obtain ⟨x0, x1, x2, y0, y1, y2, n0, rfl, -, -, g0, g1, g2⟩ := open_agg3 Try.underlying52 (by kernel_rfl) (by kernel_rfl) hv h
  obtain ⟨L0, e0, -, -⟩ := DataW.trod_int Try.underlying3 g0
  obtain ⟨L1, e1, -, -⟩ := DataW.trod_int Try.underlying3 g1
  obtain ⟨L2, e2, -, -⟩ := DataW.trod_int Try.underlying3 g2
  injection e0 with e0
  injection e1 with e1
  injection e2 with e2
  subst e0 e1 e2
  exact ⟨L0, L1, L2, rfl⟩
theorem SgB.bd {n : Nat} {w : List Int} {s : Int} (h : SgB n w s) : -((w.length + n : Nat) : Int) ≤ s ∧ s ≤ ((w.length + n : Nat) : Int) := by
  obtain ⟨p, r, ⟨V, d, -, -, rfl, rfl⟩, rfl⟩ := h
  have h1 := cB_le (w.length + (n - 1)) fun x => decide (0 < d x)
  have h2 := cB_le (w.length + (n - 1)) fun x => decide (d x < 0)
  omega
/-- what the signatures of the closures come to -/
theorem mk_neg {S : Int} {ws : List Int} {p q p' q' : Nat} (h : ofE S ws = 0) (hA : OfA S ws p q) (hA' : OfA S (ngW ws) p' q') : ((p' : Int) - q') = -((p : Int) - q) := by
  have h1 := sg_of h hA
  have h2 := sg_of (ofE_neg h) hA'
  obtain ⟨hV, -⟩ := ofE_zero h
  exact h2.uniq (h1.negw (brv_mem hV))
theorem mk_same {S S' : Int} {ws ws' : List Int} {p q p' q' : Nat} (h : ofE S ws = 0) (hA : OfA S ws p q) (hR : MkR S.toNat ws S'.toNat ws') (h' : ofE S' ws' = 0) (hA' : OfA S' ws' p' q') : ((p' : Int) - q') = ((p : Int) - q) := by
  have h1 := sg_of h hA
  obtain ⟨hV, -⟩ := ofE_zero h
  exact (sg_of h' hA').uniq (hR.sg (brv_mem hV) h1)
/-- the negated braid, as it grows -/
structure NgB (w0 wr : World) (S : Int) (v : Value) (zs : List Int) : Prop where
  bx : BBx wr w0.heap.size S v
  o : OI wr (w0.heap.size + 1) v zs
  bel : Below w0.heap.size w0 wr
theorem NgB.step {w0 wr w' : World} {S : Int} {v v' : Value} {zs zs' : List Int} {o : Obj} (h : NgB w0 wr S v zs) (ho : OI w' (w0.heap.size + 1) v' zs') (hg : (wr.alloc o).grownBy w' v.ownBlock) : NgB w0 (w'.setCell ⟨w0.heap.size, 1, none⟩ v') S v' zs' := by
  have hs : wr.heap.size ≤ w'.heap.size := (((Below.refl wr.heap.size wr).alloc (Nat.le_refl _) o).mono (Nat.zero_le _) |>.grown hg (Nat.zero_le _) (fun k _ => Nat.zero_le k)).size
  have hk : w'.heap[w0.heap.size]? = wr.heap[w0.heap.size]? := grown_alloc_block hg h.bx.lt fun e => by have := (h.o.lt _ e.symm).1; omega
  have hb := h.bx.keep hk hs
  have c0 := hb.c0
  have c1 := hb.c1
  have f0 := hb.f0
  have f1 := hb.f1
  have hl := hb.lt
  refine ⟨⟨?_, ?_, ?_, ?_, ?_⟩, ho.keep fun b hb => ?_, ?_⟩
  · simp [go_sem, *]
  · simp [go_sem, *]
  · simp [go_sem, *]
  · simp [go_sem, *]
  · simp [go_sem, *]
  · exact Below.heap_setCell _ _ _ b fun e => by have := (ho.lt b hb).1; simp at e; omega
  · exact ((h.bel.alloc h.bel.size o).grown hg (by have := h.bel.size; simp; omega) fun k hk => by have := (h.o.lt k hk).1; omega).setCell (Nat.le_refl _) _
theorem NgB.grown {w0 wr w' : World} {S : Int} {v : Value} {zs : List Int} {o : Obj} (h : NgB w0 wr S v zs) (hg : (wr.alloc o).grownBy w' v.ownBlock) : BBx w' w0.heap.size S v :=
  h.bx.keep (grown_alloc_block hg h.bx.lt fun e => by have := (h.o.lt _ e.symm).1; omega) (((Below.refl wr.heap.size wr).alloc (Nat.le_refl _) o).mono (Nat.zero_le _) |>.grown hg (Nat.zero_le _) (fun k _ => Nat.zero_le k)).size
theorem NgB.start (w : World) (S : Int) (t : TypeId) : NgB w (w.alloc (.cells #[.int .i64 S, .slice none 0 0] t)) S (.slice none 0 0) [] :=
  ⟨BBx.new _ _ _ _, OR.nil _ _, (Below.refl _ _).alloc (Nat.le_refl _) _⟩
theorem ngW_take {ws : List Int} {i : Nat} (h : i < ws.length) : ngW (ws.take (i + 1)) = ngW (ws.take i) ++ [-gi ws i] := by
  have e : ws.take (i + 1) = ws.take i ++ [gi ws i] := by
    rw [List.take_add_one, List.getElem?_eq_getElem h]
    simp [gi, h]
  rw [e]
  unfold ngW
  simp
theorem NgB.below {w0 wr w' : World} {S : Int} {v : Value} {zs : List Int} (h : NgB w0 wr S v zs) (hb : Below wr.heap.size wr w') : NgB w0 w' S v zs :=
  ⟨h.bx.below hb, h.o.below hb (Nat.le_refl _), h.bel.trans (hb.mono h.bel.size)⟩
section
variable (A : Option Addr) (c : Nat) (S : Int) (ws : List Int) (k g a : Int) (w : World)
set_option maxHeartbeats 8000000 in
theorem sm_a (hg : 9 < ws.length ∨ 4 < S) : Calls Try.prog 10 #[.agg #[.int .i64 S, .slice A ws.length c], .agg #[.int .i64 k, .int .i64 g, .int .i64 a]] w fun e w' => e = .returned (.bool true) ∧ Below w.heap.size w w' := by
  have HB : Hid (Below w.heap.size w ((w.alloc (.cells #[.int .i64 S, .slice A ws.length c] 37)).alloc (.cells #[.int .i64 k, .int .i64 g, .int .i64 a] 52))) := Lib.hid (((Below.refl _ w).alloc (Nat.le_refl _) _).alloc (by simp) _)
  have HX : Hid (BBx ((w.alloc (.cells #[.int .i64 S, .slice A ws.length c] 37)).alloc (.cells #[.int .i64 k, .int .i64 g, .int .i64 a] 52)) w.heap.size S (.slice A ws.length c)) := Lib.hid ((BBx.new w S (.slice A ws.length c) 37).below ((Below.refl _ _).alloc (Nat.le_refl _) _))
  obtain ⟨W, hW⟩ : ∃ W, ((w.alloc (.cells #[.int .i64 S, .slice A ws.length c] 37)).alloc (.cells #[.int .i64 k, .int .i64 g, .int .i64 a] 52)) = W := ⟨_, rfl⟩
  rw [hW] at HB HX
  go_enter Try.func10, Try.ntmps10
  go_wp2_with fail
  clear hW
  refine (awake39 W).mono ?_
  rintro e w1 ⟨rfl, hb⟩
  have HB1 := Lib.hid (HB.out.trans (hb.mono HB.out.size))
  have HX1 := HX.out.below hb
  have d0 := HX1.c0
  have d1 := HX1.c1
  clear hb HX1 HX HB
  by_cases h1 : (9 : Int) < (ws.length : Int)
  · clear hg
    go_wp2_with fail
    go_ret
    exact ⟨rfl, HB1.out⟩
  · have g1 := hg.resolve_left (by omega)
    clear hg
    go_wp2_with fail
    go_ret
    exact ⟨rfl, HB1.out⟩
set_option maxHeartbeats 8000000 in
theorem sm_b (h : BArg w A S ws) (hg : ¬ (9 < ws.length ∨ 4 < S)) : Calls Try.prog 10 #[.agg #[.int .i64 S, .slice A ws.length c], .agg #[.int .i64 k, .int .i64 g, .int .i64 a]] w fun e w' => e = .returned (.bool true) ∧ Below w.heap.size w w' := by
  have HB : Hid (Below w.heap.size w ((w.alloc (.cells #[.int .i64 S, .slice A ws.length c] 37)).alloc (.cells #[.int .i64 k, .int .i64 g, .int .i64 a] 52))) := Lib.hid (((Below.refl _ w).alloc (Nat.le_refl _) _).alloc (by simp) _)
  have HX : Hid (BBx ((w.alloc (.cells #[.int .i64 S, .slice A ws.length c] 37)).alloc (.cells #[.int .i64 k, .int .i64 g, .int .i64 a] 52)) w.heap.size S (.slice A ws.length c)) := Lib.hid ((BBx.new w S (.slice A ws.length c) 37).below ((Below.refl _ _).alloc (Nat.le_refl _) _))
  have HY : Hid (TBx ((w.alloc (.cells #[.int .i64 S, .slice A ws.length c] 37)).alloc (.cells #[.int .i64 k, .int .i64 g, .int .i64 a] 52)) (w.heap.size + 1) k g a) := Lib.hid (by
    have := TBx.new (w.alloc (.cells #[.int .i64 S, .slice A ws.length c] 37)) k g a 52
    rwa [show (w.alloc (.cells #[.int .i64 S, .slice A ws.length c] 37)).heap.size = w.heap.size + 1 by simp] at this)
  have HA := Lib.hid (h.call HB.out)
  have hS := h.bl
  obtain ⟨W, hW⟩ : ∃ W, ((w.alloc (.cells #[.int .i64 S, .slice A ws.length c] 37)).alloc (.cells #[.int .i64 k, .int .i64 g, .int .i64 a] 52)) = W := ⟨_, rfl⟩
  rw [hW] at HB HX HY HA
  obtain ⟨hl, hS4⟩ := not_or.1 hg
  obtain ⟨n, hn⟩ : ∃ n, ws.length = n := ⟨_, rfl⟩
  have HN := Lib.hid hn
  rw [hn] at hl HX hW ⊢
  clear h hg hn
  go_enter Try.func10, Try.ntmps10
  go_wp2_with fail
  clear hW
  refine (awake39 W).mono ?_
  rintro e w1 ⟨rfl, hb⟩
  have HB1 := Lib.hid (HB.out.trans (hb.mono HB.out.size))
  have HX1 := Lib.hid (HX.out.below hb)
  have HY1 := Lib.hid (HY.out.below hb)
  have HA1 := Lib.hid (HA.out.call hb)
  have d0 := HX1.out.c0
  have d1 := HX1.out.c1
  have hl' : (n : Int) ≤ 9 := by omega
  clear hb HX HB HY HA hl
  go_upto_region 5 with fail
  go_wp2_with fail
  refine (show Calls Try.prog 20 #[.agg #[.int .i64 S, .slice A n c]] w1 _ from by rw [← HN.out]; exact HA1.out.of (c := c)).mono ?_
  rintro e w2 ⟨p, q, rfl, hO, hb⟩
  have HO := Lib.hid hO
  have HB2 := Lib.hid (HB1.out.trans (hb.mono HB1.out.size))
  have HX2 := Lib.hid (HX1.out.below hb)
  have HY2 := Lib.hid (HY1.out.below hb)
  have HA2 := Lib.hid (HA1.out.call hb)
  clear hO hb HB1 HX1 HY1 HA1 d0 d1
  have d0 := HX2.out.c0
  have d1 := HX2.out.c1
  obtain ⟨er, her⟩ : ∃ er, ofE S ws = er := ⟨_, rfl⟩
  have HER := Lib.hid her
  rw [her]
  clear her
  by_cases h0 : er = 0
  · subst h0
    have HPQ := Lib.hid (sg_of HER.out HO.out).bd
    obtain ⟨pq, hpq⟩ : ∃ pq : Int, (p : Int) - (q : Int) = pq := ⟨_, rfl⟩
    have hb1 : -9223372036854775807 ≤ pq ∧ pq ≤ 9223372036854775807 := by
      have := HPQ.out
      have h9 := HN.out
      omega
    have HQ := Lib.hid hpq
    rw [hpq]
    have wn : IntKind.i64.wrap (-pq) = -pq := IntWalk.i64_in _ (by omega)
    have e0 : ((((0 : Nat) : Int)) != 0) = false := by decide
    clear hb1 hpq HPQ
    go_upto_region 9 with fail
    have HNG := Lib.hid (NgB.start w2 S 37)
    have hlt2 := HX2.out.lt
    clear hS4 hS
    go_wp2_with fail
    go_loopw [41] (fun i' wr => ∃ i : Nat, i ≤ n ∧ i' = .int .i64 i ∧ ∃ v, Hid (NgB w2 wr S v (ngW (ws.take i)))) (fun i _ => n - (intOf i).toNat)
    case atStart => exact ⟨0, Nat.zero_le _, rfl, _, HNG⟩
    case round =>
      obtain ⟨i, hi, rfl, v, HG⟩ := hrel
      by_cases hlt : i < n
      · have hri := HA2.out.rs.keep (w' := wr) fun b hb => HG.out.bel.block b hb
        obtain ⟨b3, o3, rfl, hb3, hc3⟩ := hri.at_ (k := i) (by rw [HN.out]; exact hlt)
        have c3 := hc3 i (by rw [HN.out]; exact hlt)
        obtain ⟨y, hy⟩ : ∃ y, gi ws i = y := ⟨_, rfl⟩
        have hyr := brv_gi (ofE_zero HER.out).1 i
        rw [hy] at c3 hyr
        have wy : IntKind.i64.wrap (-y) = -y := IntWalk.i64_in _ (by omega)
        have HS1 : Hid (ngW (ws.take (i + 1)) = ngW (ws.take i) ++ [-y]) := Lib.hid (by rw [ngW_take (by rw [HN.out]; exact hlt), hy])
        have HL1 : Hid ((ngW (ws.take i)).length < 1099511627776) := Lib.hid (by rw [ngW_len, List.length_take]; omega)
        have x1 := HG.out.bx.c1
        have HD := Lib.hid hlt
        clear hri hc3 hy hyr hb3
        go_wp2_with (at_builtin; refine app1 HG.out.o HL1.out (by exact HG.out.bx.lt) rfl rfl Try.underlying33 rfl rfl ?_; intro v' w6 ho hg hob; have HB6 := Lib.hid (HG.out.grown hg); have f1 := HB6.out.f1; have c1' := HB6.out.c1; have HG2 := Lib.hid (HG.out.step ho hg); obtain ⟨a9, d9, rfl, -, -, -⟩ := ho.shape; generalize (ngW (List.take i ws) ++ [-y]).length = m9 at HG2 ⊢; clear ho hg hob)
        rw [← HS1.out] at HG2
        go_roundw
        case rel => exact ⟨i + 1, by have := HD.out; omega, by go_num, _, HG2⟩
        case measure => have := HD.out; simp [intOf]; omega
      · obtain rfl : i = n := by omega
        rw [show ws.take i = ws from List.take_of_length_le (by rw [HN.out]; exact Nat.le_refl _)] at HG
        obtain ⟨A9, c9, rfl, -, -, -⟩ := HG.out.o.shape
        obtain ⟨n9, hn9⟩ : ∃ n, (ngW ws).length = n := ⟨_, rfl⟩
        have HN9 := Lib.hid hn9
        rw [hn9] at HG
        have b0 := HG.out.bx.c0
        have b1 := HG.out.bx.c1
        clear hn9 HNG d0 d1 hlt hi
        go_wp2_with fail
        obtain ⟨A5, c5, h5, -, -, hr5⟩ := HG.out.o.reads
        injection h5 with h5 _ _
        subst h5
        refine (show Calls Try.prog 20 #[.agg #[.int .i64 S, .slice A9 n9 c9]] wr _ from by rw [← HN9.out]; exact of_any (c := c9) hr5 (fun b hb => hb.2) (by rw [ngW_len]; exact HA2.out.ls) HA2.out.bl.1 HA2.out.bl.2).mono ?_
        rintro e w4 ⟨p2, q2, rfl, hO2, hb⟩
        rw [show ofE S (ngW ws) = 0 from ofE_neg HER.out, (mk_neg HER.out HO.out hO2).trans (by rw [HQ.out] : _ = -pq)]
        have hb24 := HG.out.bel.trans (hb.mono HG.out.bel.size)
        have HB4 := Lib.hid (HB2.out.trans (hb24.mono HB2.out.size))
        have HX4 := Lib.hid (HX2.out.below hb24)
        have HY4 := Lib.hid (HY2.out.below hb24)
        have HA4 := Lib.hid (HA2.out.call hb24)
        have d0 := HX4.out.c0
        have d1 := HX4.out.c1
        have s0 := HY4.out.c0
        have s1 := HY4.out.c1
        have s2 := HY4.out.c2
        have z0 : ((-pq) != (-pq)) = false := by simp
        clear hr5 hb hb24 hO2 HB2 HX2 HY2 HA2 HG b0 b1
        go_wp2_with fail
        refine (show Calls Try.prog 30 #[.agg #[.int .i64 S, .slice A i c], .agg #[.int .i64 k, .int .i64 g, .int .i64 a]] w4 (ApPost w4 S ws) from by rw [← HN.out]; exact apply_any A c ws S k g a HA4.out.ls HA4.out.bl w4 _ HA4.out.rs (fun b hb => hb)).mono ?_
        rintro e w5 ⟨A', c', S', ws', x', y', z', er2, rfl, -, hOK, hb⟩
        have HB5 := Lib.hid (HB4.out.trans (hb.mono HB4.out.size))
        have HOK := Lib.hid hOK
        obtain ⟨n', hn'⟩ : ∃ n, ws'.length = n := ⟨_, rfl⟩
        have HN' := Lib.hid hn'
        rw [hn']
        clear hb hOK hn' HB4 HX4 HY4 HA4 d0 d1 s0 s1 s2 z0
        by_cases h2 : er2 = 0
        · subst h2
          obtain ⟨hV, hM, hR5, hS0, hS1, hl5⟩ := HOK.out rfl
          have HMM := Lib.hid hM
          have HBW : Hid (Below w5.heap.size w5 ((w5.alloc (.cells #[.int .i64 S', .slice A' n' c'] 37)).alloc (.cells #[.int .i64 x', .int .i64 y', .int .i64 z'] 52))) := Lib.hid (((Below.refl _ _).alloc (Nat.le_refl _) _).alloc (by simp) _)
          have HOF := Lib.hid (of_any (c := c') (S := S') (hR5.keep fun b hb => HBW.out.block b hb) (fun b hb => Nat.lt_of_lt_of_le hb HBW.out.size) (by unfold maxLen; omega) (by omega) (by omega))
          rw [HN'.out] at HOF
          clear hV hM hR5 hS0 hS1 hl5 HOK
          go_wp2_with fail
          refine HOF.out.mono ?_
          rintro e w6 ⟨p3, q3, rfl, hO3, hb⟩
          have HB6 := Lib.hid (HB5.out.trans ((HBW.out.trans (hb.mono HBW.out.size)).mono HB5.out.size))
          have HO3 := Lib.hid hO3
          obtain ⟨er3, her3⟩ : ∃ er, ofE S' ws' = er := ⟨_, rfl⟩
          have HE3 := Lib.hid her3
          rw [her3]
          clear hb hO3 her3 HBW HB5 HOF
          by_cases h3 : er3 = 0
          · subst h3
            rw [(mk_same HER.out HO.out HMM.out HE3.out HO3.out).trans HQ.out]
            have z1 : ((((0 : Nat) : Int)) != 0) = false := by decide
            have z2 : (pq == pq) = true := by simp
            go_wp2_with fail
            go_ret
            exact ⟨rfl, HB6.out⟩
          · have z1 : ((er3 : Int) != 0) = true := by rw [bne_iff_ne]; omega
            go_wp2_with fail
            go_ret
            exact ⟨rfl, HB6.out⟩
        · have z1 : (er2 != 0) = true := by rw [bne_iff_ne]; exact h2
          go_wp2_with fail
          go_ret
          exact ⟨rfl, HB5.out.trans ((((Below.refl _ _).alloc (Nat.le_refl _) _).alloc (by simp) _).mono HB5.out.size)⟩
  · have e0 : ((er : Int) != 0) = true := by rw [bne_iff_ne]; omega
    go_wp2_with fail
    go_ret
    exact ⟨rfl, HB2.out⟩
end
theorem signatureMarkov_walk (A : Option Addr) (c : Nat) (S : Int) (ws : List Int) (k g a : Int) (w : World) (h : BArg w A S ws) : Calls Try.prog 10 #[.agg #[.int .i64 S, .slice A ws.length c], .agg #[.int .i64 k, .int .i64 g, .int .i64 a]] w fun e w' => e = .returned (.bool true) ∧ Below w.heap.size w w' := by
  by_cases hg : 9 < ws.length ∨ 4 < S
  · exact sm_a A c S ws k g a w hg
  · exact sm_b A c S ws k g a w h hg
end Go.Proofs.Yteanhbldhaiekaa
