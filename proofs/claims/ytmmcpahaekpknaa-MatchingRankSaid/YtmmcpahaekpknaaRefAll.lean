/-
  The contract of the reference's All: the list of all matchings, by recursion.
-/
import Derived.Test.YtmmcpahaekpknaaRR
import Derived.Test.YtmmcpahaekpknaaAllM
import Derived.Laws.EntriesVeiled
namespace Go.Proofs.Ytmmcpahaekpknaa
open Go.RowKit

theorem list_info : (Try.prog.info? 22).map (fun i => (i.zero, i.size, i.bytes)) = some (some (.slice none 0 0), 1, 24) := by kernel_rfl

theorem allN_range : ∀ (f n : Nat), n < f → ∀ a, a ∈ allN n → ∀ j, j < a.length → 0 ≤ gi a j ∧ gi a j < 2 * n
  | 0, _, h, _, _, _, _ => by omega
  | f + 1, n, h, a, ha, j, hj => by
    cases n with
    | zero =>
      rw [allN_zero] at ha
      have : a = [] := by simpa using ha
      subst this
      simp at hj
    | succ n =>
      rw [allN_succ] at ha
      simp only [List.mem_flatMap, List.mem_map, List.mem_range] at ha
      obtain ⟨k, hk, x, hx, y, hy, rfl⟩ := ha
      have h1 := allN_len hx
      have h2 := allN_len hy
      have h3 := allN_range f k (by omega) x hx
      have h4 := allN_range f (n - k) (by omega) y hy
      rw [glue_length] at hj
      rw [gi_glue h1 j hj]
      split
      · omega
      split
      · have := h3 (j - 1) (by omega)
        omega
      split
      · omega
      · have := h4 (j - (2 * k + 2)) (by omega)
        omega

/-- blocks lo to hi - 1 hold what they held -/
def Kept (lo hi : Nat) (W w : World) : Prop := ∀ b, lo ≤ b → b < hi → w.heap[b]? = W.heap[b]?

theorem Kept.below {lo hi C : Nat} {W w w' : World} (h : Kept lo hi W w) (hb : Below C w w') (hC : hi ≤ C) : Kept lo hi W w' := fun b h1 h2 => (hb.block b (by omega)).trans (h b h1 h2)

theorem RR.kept {eo : TypeId} {W w : World} {lo hi : Nat} {F : Nat → Prop} {v : Value} {xss : List (List Int)} (h : RR eo W lo F v xss) (hk : Kept lo hi W w) (hs : W.heap.size ≤ hi) : RR eo w lo F v xss :=
  h.keep fun b h1 h2 _ => hk b h1 (by omega)

def gluesF (n k : Nat) : List (List Int) := (allN k).flatMap fun a => (allN (n - 1 - k)).map fun b => glue k a b
theorem allN_glues (n : Nat) (hn : 0 < n) : allN n = (List.range' 0 n).flatMap (gluesF n) := by
  obtain ⟨m, rfl⟩ : ∃ m, n = m + 1 := ⟨n - 1, by omega⟩
  rw [allN_succ, List.range_eq_range']
  apply flatMap_congr'
  intro k hk
  have e : m + 1 - 1 - k = m - k := by omega
  unfold gluesF
  rw [e]

def RefAllPost (n : Nat) (w : World) (e : Ending) (w' : World) : Prop :=
  ∃ v, e = .returned v ∧ RR 22 w' w.heap.size (fun _ => False) v (allN n) ∧ Below w.heap.size w w'

theorem seg_small : ∀ n, n < 10 → segF (n + 1) n ≤ 4862 := by decide +kernel
theorem allN_small {n : Nat} (h : n < 10) : (allN n).length ≤ 4862 := by rw [all_count (n + 1) n (by omega)]; exact seg_small n h

theorem RR.at_slice {eo : TypeId} {w : World} {N n c : Nat} {F : Nat → Prop} {A : Option Addr} {xss : List (List Int)} (h : RR eo w N F (.slice A n c) xss) {k : Nat} (hk : k < xss.length) :
    ∃ g, A = some ⟨g, 0, none⟩ ∧ N ≤ g ∧ g < w.heap.size ∧ ∃ A' c', w.cell? ⟨g, k, none⟩ = some (.slice A' (xss.getD k []).length c') ∧ RI w (fun b => N ≤ b ∧ b < w.heap.size) A' (xss.getD k []) := by
  obtain ⟨g, c, A', c', h1, h2, h3, h4, h5, -⟩ := h.at_ hk
  injection h1 with e1 e2 e3
  exact ⟨g, e1, h2, h3, A', c', h4, h5⟩

theorem getD_mem {xss : List (List Int)} {k : Nat} (h : k < xss.length) : xss.getD k [] ∈ xss := by
  rw [List.getD_eq_getElem?_getD, List.getElem?_eq_getElem h]
  exact List.getElem_mem h
theorem drop_getD {xss : List (List Int)} {k : Nat} (h : k < xss.length) : xss.drop k = xss.getD k [] :: xss.drop (k + 1) := by
  rw [List.drop_eq_getElem_cons h, List.getD_eq_getElem?_getD, List.getElem?_eq_getElem h]
  rfl
theorem take_gi {xs : List Int} {k : Nat} (h : k < xs.length) : xs.take (k + 1) = xs.take k ++ [gi xs k] := by
  rw [List.take_succ_eq_append_getElem h, gi_lt h]

set_option maxRecDepth 100000 in
set_option maxHeartbeats 8000000 in
theorem refall_any : ∀ (f n : Nat) (w : World), n < f → n ≤ 9 →
    Calls Try.prog 16 #[.int .i64 n] w (RefAllPost n w) := by
  intro f
  induction f with
  | zero => intro n w h; omega
  | succ f ih =>
    intro n w hf hn
    have IH := Lib.hid ih
    clear ih
    by_cases h0 : n = 0
    · subst h0
      go_enter Try.func16, Try.ntmps16
      go_wp2_with fail
      go_ret
      refine ⟨_, rfl, ?_, ((Below.refl _ _).alloc (Nat.le_refl _) _).alloc (by simp) _⟩
      rw [allN_zero]
      refine ⟨[.slice (some ⟨w.heap.size, 0, none⟩) 0 0], ?_, by simp, rfl, ?_⟩
      · have := OR.made (e := 22) (f := id) (xs := [Value.slice (some ⟨w.heap.size, 0, none⟩) 0 0]) (w.alloc (.cells #[] 3)) w.heap.size #[.slice (some ⟨w.heap.size, 0, none⟩) 0 0] (by simp) (by simp [maxLen]) rfl
        simpa using this
      · intro k hk
        obtain rfl : k = 0 := by simpa using hk
        refine ⟨?_, by simp⟩
        have := (OR.made (e := 3) (f := Value.int .i64) (xs := []) w w.heap.size #[] (Nat.le_refl _) (by simp) rfl).alloc (.cells #[.slice (some ⟨w.heap.size, 0, none⟩) 0 0] 22)
        simpa using this
    · have hb0 : ((n : Int) == 0) = false := by rw [beq_eq_false_iff_ne]; omega
      have hpos : 0 < n := by omega
      clear h0
      go_enter Try.func16, Try.ntmps16
      go_wp2_with fail
      go_loopw [3, 4] (fun v k wr => ∃ (q : Nat) (out : List (List Int)), q ≤ n ∧ k = .int .i64 q ∧ Hid (RR 22 wr w.heap.size (fun _ => False) v out) ∧
        Hid (out ++ (List.range' q (n - q)).flatMap (gluesF n) = allN n) ∧ Below w.heap.size w wr) (fun _ k _ => n - (intOf k).toNat)
      case atStart => exact ⟨0, [], Nat.zero_le _, rfl, RR.nil _ _ _, by rw [allN_glues n hpos]; rfl, Below.refl _ _⟩
      case round =>
        obtain ⟨wa, rfl⟩ : ∃ x : World, x = wr := ⟨_, rfl⟩
        obtain ⟨q, out, hq, rfl, HR, HX, hbel⟩ := hrel
        by_cases hlt : q < n
        · have hs0 := hbel.size
          have e2 : (n : Int) - 1 - (q : Int) = ((n - 1 - q : Nat) : Int) := by omega
          have E2 := Lib.hid e2
          clear e2
          go_wp2_with fail
          refine (IH.out q _ (by omega) (by omega)).mono ?_
          rintro e w1 ⟨v1, rfl, hr1, hb1⟩
          go_wp2_with fail
          rw [E2.out]
          refine (IH.out (n - 1 - q) _ (by omega) (by omega)).mono ?_
          rintro e w2 ⟨v2, rfl, hr2, hb2⟩
          obtain ⟨A1, c1, rfl, -, -, -⟩ := hr1.shape
          obtain ⟨A2, c2, rfl, -, -, -⟩ := hr2.shape
          have hs1 := hb1.size
          have hs2 := hb2.size
          have HR1 : Hid (RR 22 w2 wa.heap.size (fun _ => False) (.slice A1 (allN q).length c1) (allN q)) := hr1.below hb2 (Nat.le_refl _)
          have HR2 : Hid (RR 22 w2 wa.heap.size (fun _ => False) (.slice A2 (allN (n - 1 - q)).length c2) (allN (n - 1 - q))) := hr2.mono hs1
          have HRo : Hid (RR 22 w2 w.heap.size (fun b => wa.heap.size ≤ b ∧ b < w2.heap.size) u3 out) :=
            ((HR.out.imp fun b _ h2 h3 => by have : wa.heap.size ≤ b := h3.1; omega).below hb1 (Nat.le_refl _)).below hb2 (Nat.le_refl _)
          have hbel2 : Below w.heap.size w w2 := hbel.trans ((hb1.trans (hb2.mono hs1)).mono hs0)
          have HX2 : Hid (out ++ (allN q).flatMap (fun a => (allN (n - 1 - q)).map fun b => glue q a b) ++ (List.range' (q + 1) (n - (q + 1))).flatMap (gluesF n) = allN n) := by
            have := HX.out
            obtain ⟨m, hm⟩ : ∃ m, n - q = m + 1 := ⟨n - q - 1, by omega⟩
            have hm' : n - (q + 1) = m := by omega
            rw [hm, List.range'_succ, List.flatMap_cons, ← List.append_assoc] at this
            rw [hm']
            exact this
          have hl1 := allN_small (n := q) (by omega)
          have hl2 := allN_small (n := n - 1 - q) (by omega)
          have hl3 := allN_small (n := n) (by omega)
          clear hr1 hr2 hb1 hb2 HX HR
          go_wp2_with fail
          go_loopw [3, 7] (fun v i wc => ∃ (p : Nat) (out1 : List (List Int)), p ≤ (allN q).length ∧ i = .int .i64 p ∧ Hid (RR 22 wc w.heap.size (fun b => wa.heap.size ≤ b ∧ b < w2.heap.size) v out1) ∧
            Hid (out1 ++ ((allN q).drop p).flatMap (fun a => (allN (n - 1 - q)).map fun b => glue q a b) ++ (List.range' (q + 1) (n - (q + 1))).flatMap (gluesF n) = allN n) ∧ Below w.heap.size w wc ∧ Hid (Kept wa.heap.size w2.heap.size w2 wc) ∧ w2.heap.size ≤ wc.heap.size)
            (fun _ i _ => (allN q).length - (intOf i).toNat)
          case atStart => exact ⟨0, out, Nat.zero_le _, rfl, HRo, HX2, hbel2, fun _ _ _ => rfl, Nat.le_refl _⟩
          case round =>
            obtain ⟨wc, rfl⟩ : ∃ x : World, x = wr := ⟨_, rfl⟩
            obtain ⟨i, out1, hi, rfl, HR, HX, hbc, HK, hsc⟩ := hrel
            by_cases hil : i < (allN q).length
            · obtain ⟨a, Ha⟩ : ∃ a, Hid (a = (allN q).getD i []) := ⟨_, rfl⟩
              have hamem : a ∈ allN q := by rw [Ha.out]; exact getD_mem hil
              have halen := allN_len hamem
              have HAR := Lib.hid (allN_range (q + 1) q (by omega) a hamem)
              obtain ⟨g1, rfl, hg1, hg1', B1, d1, hcell1, hri1⟩ := HR1.out.at_slice hil
              rw [← Ha.out, halen] at hcell1
              rw [← Ha.out] at hri1
              have HX3 : Hid (out1 ++ ((allN (n - 1 - q)).map fun b => glue q a b) ++ (((allN q).drop (i + 1)).flatMap (fun a => (allN (n - 1 - q)).map fun b => glue q a b) ++ (List.range' (q + 1) (n - (q + 1))).flatMap (gluesF n)) = allN n) := by
                have := HX.out
                rw [drop_getD hil, List.flatMap_cons, ← Ha.out] at this
                show _ = _
                rw [← this]
                simp only [List.append_assoc]
              clear HX
              go_wp2_with fail
              go_loopw [3, 8] (fun v i' wd => ∃ (p : Nat) (out2 : List (List Int)), p ≤ (allN (n - 1 - q)).length ∧ i' = .int .i64 p ∧ Hid (RR 22 wd w.heap.size (fun b => wa.heap.size ≤ b ∧ b < w2.heap.size) v out2) ∧
                Hid (out2 ++ (((allN (n - 1 - q)).drop p).map fun b => glue q a b) ++ (((allN q).drop (i + 1)).flatMap (fun a => (allN (n - 1 - q)).map fun b => glue q a b) ++ (List.range' (q + 1) (n - (q + 1))).flatMap (gluesF n)) = allN n) ∧ Below w.heap.size w wd ∧ Hid (Kept wa.heap.size w2.heap.size w2 wd) ∧ w2.heap.size ≤ wd.heap.size)
                (fun _ i' _ => (allN (n - 1 - q)).length - (intOf i').toNat)
              case atStart => exact ⟨0, out1, Nat.zero_le _, rfl, HR, HX3, hbc, HK, hsc⟩
              case round =>
                clear HX3 HR HK hbc hsc
                obtain ⟨wd, rfl⟩ : ∃ x : World, x = wr := ⟨_, rfl⟩
                obtain ⟨j, out2, hj, rfl, HR, HX, hbd, HK, hsd⟩ := hrel
                by_cases hjl : j < (allN (n - 1 - q)).length
                · obtain ⟨b, Hb⟩ : ∃ b, Hid (b = (allN (n - 1 - q)).getD j []) := ⟨_, rfl⟩
                  have hbmem : b ∈ allN (n - 1 - q) := by rw [Hb.out]; exact getD_mem hjl
                  have hblen := allN_len hbmem
                  have HBR := Lib.hid (allN_range (n - 1 - q + 1) (n - 1 - q) (by omega) b hbmem)
                  obtain ⟨g2, rfl, hg2, hg2', B2, d2, hcell2, hri2⟩ := HR2.out.at_slice hjl
                  rw [← Hb.out, hblen] at hcell2
                  rw [← Hb.out] at hri2
                  have hHX := HX.out
                  rw [drop_getD hjl, List.map_cons, ← Hb.out] at hHX
                  have HX4 : Hid ((out2 ++ [glue q a b]) ++ (((allN (n - 1 - q)).drop (j + 1)).map fun b => glue q a b) ++ (((allN q).drop (i + 1)).flatMap (fun a => (allN (n - 1 - q)).map fun b => glue q a b) ++ (List.range' (q + 1) (n - (q + 1))).flatMap (gluesF n)) = allN n) := by
                    show _ = _
                    rw [← hHX]
                    simp only [List.append_assoc, List.singleton_append]
                  have hol : out2.length ≤ 4862 := by
                    have := congrArg List.length hHX
                    simp only [List.length_append] at this
                    omega
                  clear hHX HX
                  go_wp2_with fail
                  go_loopw [9, 10] (fun v p wr => ∃ (t : Nat), t ≤ 2 * q ∧ p = .int .i64 t ∧ Hid (OI wr wd.heap.size v (((2 * q + 1 : Nat) : Int) :: (a.take t).map (· + 1))) ∧ Below wd.heap.size wd wr) (fun _ p _ => 2 * q - (intOf p).toNat)
                  case atStart =>
                    refine ⟨0, Nat.zero_le _, rfl, ?_, (Below.refl _ _).alloc (Nat.le_refl _) _⟩
                    have := OR.made (e := 3) (f := Value.int .i64) (xs := [2 * (q : Int) + 1]) wd wd.heap.size #[.int .i64 (2 * (q : Int) + 1)] (Nat.le_refl _) (by simp [maxLen]) rfl
                    show OR _ _ _ _ _ _
                    simpa using this
                  case round =>
                    obtain ⟨t, ht, rfl, HO, hbe⟩ := hrel
                    have hsz := hbe.size
                    have hnm : n - 1 - q ≤ 9 := by omega
                    by_cases htl : t < 2 * q
                    · have c1 : wr.cell? ⟨g1, i, none⟩ = some (.slice B1 (2 * q) d1) := (World.cell?_of_block (a := ⟨g1, i, none⟩) ((HK.out.below hbe hsd) g1 hg1 hg1')).trans hcell1
                      obtain ⟨bb, bo, rfl, ⟨hb1, hb2⟩, hcc⟩ := (hri1.keep (fun x hx => (HK.out.below hbe hsd) x hx.1 hx.2)).at_ (show t < a.length by omega)
                      have c2 := hcc t (by omega)
                      obtain ⟨r1, r2⟩ := HAR.out t (by omega)
                      clear hcc
                      go_wp2_with (at_builtin; refine app1 HO.out (by simp; omega) hsz rfl rfl Try.underlying22 rfl rfl ?_; intro v' w' ho hg hob)
                      go_roundw
                      case rel =>
                        refine ⟨t + 1, by omega, by go_num, ?_, HO.out.grown_below hbe hsz _ hg⟩
                        rw [take_gi (by omega), List.map_append, ← List.cons_append]
                        exact ho
                      case measure => simp [intOf]; omega
                    · have htq : t = 2 * q := by omega
                      have HO1 : Hid (OI wr wd.heap.size u9 (((2 * q + 1 : Nat) : Int) :: a.map (· + 1))) := by
                        have := HO.out
                        rw [htq, List.take_of_length_le (by omega)] at this
                        exact this
                      clear htq HO
                      go_wp2_with (at_builtin; refine app1 HO1.out (by simp; omega) hsz rfl rfl Try.underlying22 rfl rfl ?_; intro v' w' ho hg hob)
                      have HO2 : Hid (OI w' wd.heap.size v' ((((2 * q + 1 : Nat) : Int) :: a.map (· + 1)) ++ [0])) := ho
                      have hbe2 := HO1.out.grown_below hbe hsz _ hg
                      obtain ⟨m, hm⟩ : ∃ m, n - 1 - q = m := ⟨_, rfl⟩
                      have e5 : 2 * ((n : Int) - 1 - (q : Int)) = ((2 * m : Nat) : Int) := by omega
                      have E5 := Lib.hid e5
                      have HM := Lib.hid hm
                      clear ho hg hob hbe hsz HO1 e5 hm
                      go_loopw [9, 11] (fun v p wr => ∃ (t : Nat), t ≤ 2 * m ∧ p = .int .i64 t ∧ Hid (OI wr wd.heap.size v (((((2 * q + 1 : Nat) : Int) :: a.map (· + 1)) ++ [0]) ++ (b.take t).map (fun (x : Int) => x + ((2 * q + 2 : Nat) : Int)))) ∧ Below wd.heap.size wd wr) (fun _ p _ => 2 * m - (intOf p).toNat)
                      case atStart => exact ⟨0, Nat.zero_le _, rfl, by rw [List.take_zero, List.map_nil, List.append_nil]; exact HO2, hbe2⟩
                      case round =>
                        clear HO2 hbe2
                        obtain ⟨t, ht, rfl, HO, hbe⟩ := hrel
                        have hsz := hbe.size
                        have hbl2 : b.length = 2 * m := by rw [hblen, HM.out]
                        have hm9 : m ≤ 9 := by have := HM.out; omega
                        by_cases htl : t < 2 * m
                        · have c1 : wr.cell? ⟨g2, j, none⟩ = some (.slice B2 (2 * (n - 1 - q)) d2) := (World.cell?_of_block (a := ⟨g2, j, none⟩) ((HK.out.below hbe hsd) g2 hg2 hg2')).trans hcell2
                          obtain ⟨bb, bo, rfl, ⟨hb1, hb2⟩, hcc⟩ := (hri2.keep (fun x hx => (HK.out.below hbe hsd) x hx.1 hx.2)).at_ (show t < b.length by omega)
                          have c2 := hcc t (by omega)
                          obtain ⟨r1, r2⟩ := HBR.out t (by omega)
                          have hmq : 2 * (n - 1 - q) = 2 * m := by rw [HM.out]
                          rw [hmq] at c1
                          have ht2 : (t : Int) < 2 * ((n : Int) - 1 - (q : Int)) := by rw [E5.out]; omega
                          have ey : gi b t + 2 * (q : Int) + 2 = gi b t + ((2 * q + 2 : Nat) : Int) := by omega
                          have EY := Lib.hid ey
                          clear hcc hmq ey
                          go_wp2_with (at_builtin; refine app1 HO.out (by simp; omega) hsz rfl rfl Try.underlying22 rfl rfl ?_; intro v' w' ho hg hob)
                          go_roundw
                          case rel =>
                            refine ⟨t + 1, by omega, by go_num, ?_, HO.out.grown_below hbe hsz _ hg⟩
                            rw [EY.out] at ho
                            rw [take_gi (by omega), List.map_append, ← List.append_assoc]
                            exact ho
                          case measure => simp [intOf]; omega
                        · have htq : t = 2 * m := by omega
                          have hOg : OI wr wd.heap.size u9 (glue q a b) := by
                            have := HO.out
                            rw [htq, List.take_of_length_le (by omega)] at this
                            have e : glue q a b = ((((2 * q + 1 : Nat) : Int) :: a.map (· + 1)) ++ [0]) ++ b.map (fun (x : Int) => x + ((2 * q + 2 : Nat) : Int)) := by simp [glue]
                            rw [e]
                            exact this
                          have ht2 : ¬ (t : Int) < 2 * ((n : Int) - 1 - (q : Int)) := by rw [E5.out]; omega
                          clear htq HO
                          obtain ⟨vs, hvs⟩ := HR.out.below hbe (Nat.le_refl _)
                          obtain ⟨Am, cm, rfl, -, -, -⟩ := hOg.reads
                          have hvl : vs.length ≤ 4862 := by rw [hvs.2.2.1]; exact hol
                          have HVS := Lib.hid hvs
                          have HOG := Lib.hid hOg
                          have hwd : w.heap.size ≤ wr.heap.size := by omega
                          clear hvs hOg
                          go_wp2_with (at_builtin; refine app_row (f := id) (y := Value.slice Am (glue q a b).length cm) list_info rfl (by decide) rfl HVS.out.1 (by omega) hwd rfl rfl Try.underlying31 rfl rfl ?_; intro v' w' ho hg hob)
                          have hpush := RRv.push (by decide) HVS.out (HOG.out.mono (by omega)) (fun g hgv hF => by have h1 := (HOG.out.lt g hgv).1; have h2 : g < w2.heap.size := hF.2; omega) (fun b hF => by have h2 : b < w2.heap.size := hF.2; omega) ho hg hob
                          have hbelow : Below wd.heap.size wd w' → Below w.heap.size w w' := fun h => hbd.trans (h.mono (by omega))
                          have hkept : Kept wa.heap.size w2.heap.size w2 w' := fun x h1 h2 => by
                            rw [← (HK.out.below hbe hsd) x h1 h2]
                            exact (hg.block x (by simp; omega) (fun e => HVS.out.2.1 x e.symm ⟨h1, h2⟩)).trans (Below.heap_alloc wr _ x (by omega))
                          have hsw : w2.heap.size ≤ w'.heap.size := by have := hg.size; simp at this; omega
                          have hbel' : Below w.heap.size w w' := by
                            refine ((hbd.trans (hbe.mono (by omega))).alloc hwd _).grown hg (by simp; omega) fun k hk => (HVS.out.1.lt k hk).1
                          have HKP := Lib.hid hkept
                          have HRR : Hid (RR 22 w' w.heap.size (fun b => wa.heap.size ≤ b ∧ b < w2.heap.size) v' (out2 ++ [glue q a b])) := ⟨_, hpush⟩
                          clear hpush hbelow hkept hg hob ho
                          go_roundw
                          case rel => exact ⟨j + 1, _, by omega, by go_num, HRR, HX4, hbel', HKP, hsw⟩
                          case measure => simp [intOf]; omega
                · have hjl' : (allN (n - 1 - q)).drop j = [] := List.drop_eq_nil_of_le (by omega)
                  have HX5 : Hid (out2 ++ ((allN q).drop (i + 1)).flatMap (fun a => (allN (n - 1 - q)).map fun b => glue q a b) ++ (List.range' (q + 1) (n - (q + 1))).flatMap (gluesF n) = allN n) := by
                    have := HX.out
                    rw [hjl', List.map_nil, List.append_nil, ← List.append_assoc] at this
                    exact this
                  clear hjl' HX
                  go_wp2_with fail
                  go_roundw
                  case rel => exact ⟨i + 1, out2, by omega, by go_num, HR, HX5, hbd, HK, hsd⟩
                  case measure => simp [intOf]; omega
            · have hil' : (allN q).drop i = [] := List.drop_eq_nil_of_le (by omega)
              have HX6 : Hid (out1 ++ (List.range' (q + 1) (n - (q + 1))).flatMap (gluesF n) = allN n) := by
                have := HX.out
                rw [hil', List.flatMap_nil, List.append_nil] at this
                exact this
              have HR6 : Hid (RR 22 wc w.heap.size (fun _ => False) u3 out1) := HR.out.imp fun _ _ _ h => h.elim
              clear hil' HX HR
              go_wp2_with fail
              go_roundw
              case rel => exact ⟨q + 1, out1, by omega, by go_num, HR6, HX6, hbc⟩
              case measure => simp [intOf]; omega
        · have hq' : n - q = 0 := by omega
          have hfin : RR 22 wa w.heap.size (fun _ => False) u3 (allN n) := by
            have := HX.out
            rw [hq', List.range'_zero, List.flatMap_nil, List.append_nil] at this
            rw [← this]
            exact HR.out
          have HF := Lib.hid hfin
          clear hfin hq' HX HR
          go_wp2_with fail
          go_ret
          exact ⟨_, rfl, HF.out, hbel⟩
end Go.Proofs.Ytmmcpahaekpknaa
