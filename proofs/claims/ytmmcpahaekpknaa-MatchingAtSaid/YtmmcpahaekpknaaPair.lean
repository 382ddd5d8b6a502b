/-
  The contract of matching.Pair.
-/
import Derived.Test.YtmmcpahaekpknaaValid
import Derived.Test.YtmmcpahaekpknaaPairM
namespace Go.Proofs.Ytmmcpahaekpknaa
open Go.RowKit

theorem valid_yes {A : Option Addr} {c : Nat} {xs : List Int} {w : World} (S : Nat → Prop) (hx : RI w S A xs) (hS : ∀ b, S b → b < w.heap.size) (h : IsM xs) :
    Calls Try.prog 12 #[.slice A xs.length c] w fun e w' => e = .returned (.bool true) ∧ Below w.heap.size w w' :=
  (valid_any A c xs w S hx hS (by have := h.2.1; unfold maxLen; omega)).mono fun e w' ⟨he, hb⟩ => ⟨by rw [he, decide_eq_true h], hb⟩
theorem valid_no {A : Option Addr} {c : Nat} {xs : List Int} {w : World} (S : Nat → Prop) (hx : RI w S A xs) (hS : ∀ b, S b → b < w.heap.size) (hm : xs.length ≤ maxLen) (h : ¬ IsM xs) :
    Calls Try.prog 12 #[.slice A xs.length c] w fun e w' => e = .returned (.bool false) ∧ Below w.heap.size w w' :=
  (valid_any A c xs w S hx hS hm).mono fun e w' ⟨he, hb⟩ => ⟨by rw [he, decide_eq_false h], hb⟩

set_option maxHeartbeats 1000000 in
theorem pair_arg (A B : Option Addr) (c d : Nat) (xs ys : List Int) (w : World) (hx : RI w (· < w.heap.size) A xs) (hy : RI w (· < w.heap.size) B ys) (hm : xs.length ≤ maxLen) (hn : ys.length ≤ maxLen)
    (h : ¬ (IsM xs ∧ IsM ys)) :
    Calls Try.prog 18 #[.slice A xs.length c, .slice B ys.length d] w fun e w' => e = .returned (.tuple #[.int .i64 0, .int .i64 1]) ∧ Below w.heap.size w w' := by
  by_cases h1 : IsM xs
  · have h2 : ¬ IsM ys := fun h2 => h ⟨h1, h2⟩
    have H1 := Lib.hid h1
    have H2 := Lib.hid h2
    clear h1 h2 h
    go_enter Try.func18, Try.ntmps18
    go_wp2_with fail
    refine (valid_yes (· < w.heap.size) hx (fun _ h => h) H1.out).mono ?_
    rintro e w1 ⟨rfl, hb1⟩
    have hs1 := hb1.size
    go_wp2_with fail
    refine (valid_no (· < w.heap.size) (hy.below hb1) (fun _ h => by omega) hn H2.out).mono ?_
    rintro e w2 ⟨rfl, hb2⟩
    go_wp2_with fail
    go_ret2
    exact ⟨rfl, hb1.trans (hb2.mono hs1)⟩
  · have H1 := Lib.hid h1
    clear h1 h
    go_enter Try.func18, Try.ntmps18
    go_wp2_with fail
    refine (valid_no (· < w.heap.size) hx (fun _ h => h) hm H1.out).mono ?_
    rintro e w1 ⟨rfl, hb1⟩
    go_wp2_with fail
    go_ret2
    exact ⟨rfl, hb1⟩

set_option maxHeartbeats 1000000 in
theorem pair_range (A B : Option Addr) (c d : Nat) (xs ys : List Int) (w : World) (hx : RI w (· < w.heap.size) A xs) (hy : RI w (· < w.heap.size) B ys)
    (h1 : IsM xs) (h2 : IsM ys) (hne : xs.length ≠ ys.length) :
    Calls Try.prog 18 #[.slice A xs.length c, .slice B ys.length d] w fun e w' => e = .returned (.tuple #[.int .i64 0, .int .i64 2]) ∧ Below w.heap.size w w' := by
  have hq : ((xs.length : Int) != ys.length) = true := by rw [bne_iff_ne]; omega
  have H1 := Lib.hid h1
  have H2 := Lib.hid h2
  clear h1 h2 hne
  go_enter Try.func18, Try.ntmps18
  go_wp2_with fail
  refine (valid_yes (· < w.heap.size) hx (fun _ h => h) H1.out).mono ?_
  rintro e w1 ⟨rfl, hb1⟩
  have hs1 := hb1.size
  go_wp2_with fail
  refine (valid_yes (· < w.heap.size) (hy.below hb1) (fun _ h => by omega) H2.out).mono ?_
  rintro e w2 ⟨rfl, hb2⟩
  go_wp2_with fail
  go_ret2
  exact ⟨rfl, hb1.trans (hb2.mono hs1)⟩

set_option maxHeartbeats 2000000 in
theorem pair_ok (A B : Option Addr) (c d : Nat) (xs ys : List Int) (w : World) (hx : RI w (· < w.heap.size) A xs) (hy : RI w (· < w.heap.size) B ys)
    (h1 : IsM xs) (h2 : IsM ys) (hl : xs.length = ys.length) :
    Calls Try.prog 18 #[.slice A xs.length c, .slice B ys.length d] w fun e w' => e = .returned (.tuple #[.int .i64 (pairN xs ys), .int .i64 0]) ∧ Below w.heap.size w w' := by
  have hq : ((xs.length : Int) != ys.length) = false := by rw [bne_eq_false_iff_eq]; omega
  have h48 : xs.length ≤ 48 := h1.2.1
  have hl1 : xs.length ≤ ys.length := by omega
  have hl2 : ys.length ≤ xs.length := by omega
  have H1 := Lib.hid h1
  have H2 := Lib.hid h2
  have hmk := fun W => make_bools 54 Try.underlying54 xs.length (by omega) W
  clear h1 h2 hl
  go_enter Try.func18, Try.ntmps18
  go_wp2_with fail
  refine (valid_yes (· < w.heap.size) hx (fun _ h => h) H1.out).mono ?_
  rintro e w1 ⟨rfl, hb1⟩
  have hs1 := hb1.size
  go_wp2_with fail
  refine (valid_yes (· < w.heap.size) (hy.below hb1) (fun _ h => by omega) H2.out).mono ?_
  rintro e w2 ⟨rfl, hb2⟩
  have hs2 := hb2.size
  have hb : Below w.heap.size w w2 := hb1.trans (hb2.mono hs1)
  clear hb1 hb2
  go_wp2_with fail
  go_loopw [7, 28] (fun cc i wr => ∃ (k q : Nat) (s : List Bool), k ≤ xs.length ∧ q ≤ k ∧ i = .int .i64 k ∧ cc = .int .i64 q ∧ Hid (OB wr w.heap.size (.slice (some ⟨w2.heap.size, 0, none⟩) s.length xs.length) s ∧ s.length = xs.length) ∧
    Hid (prL xs ys (List.range' k (xs.length - k)) s q = pairN xs ys) ∧ Below w.heap.size w wr) (fun _ i _ => xs.length - (intOf i).toNat)
  case atStart =>
    refine ⟨0, 0, List.replicate xs.length false, Nat.zero_le _, Nat.zero_le _, rfl, rfl, ⟨?_, by simp⟩, rfl, hb.alloc (by omega) _⟩
    have := OB.new w2 w.heap.size xs.length (by omega) (by unfold maxLen; omega)
    simpa using this
  case round =>
    obtain ⟨k, q, s, hk, hqk, rfl, rfl, HO, HP, hbel⟩ := hrel
    by_cases hlt : k < xs.length
    · obtain ⟨g, cc, hv, hBg, hgs, hlc, hcm, hcell, hfz⟩ := HO.out.1.bools (by rw [HO.out.2]; omega)
      have hg : w2.heap.size = g := by injection hv with h1 h2 h3; injection h1 with h1; injection h1
      subst hg
      have c1 := hcell k (by rw [HO.out.2]; omega)
      clear hcell hfz hv hlc hcm
      obtain ⟨m, hm⟩ : ∃ m, xs.length - k = m + 1 := ⟨xs.length - k - 1, by omega⟩
      have hm' : xs.length - (k + 1) = m := by omega
      by_cases hs : gb s k = true
      · have HP' : Hid (prL xs ys (List.range' (k + 1) (xs.length - (k + 1))) s q = pairN xs ys) := by
          have := HP.out
          rw [hm, prL_seen hs] at this
          rw [hm']
          exact this
        clear hm hm'
        go_wp2
        go_roundw
        case rel => exact ⟨k + 1, q, s, by omega, by omega, by go_num, rfl, HO, HP', hbel⟩
        case measure => simp [intOf]; omega
      · have hs : gb s k = false := by simpa using hs
        have HP' : Hid (prL xs ys (List.range' (k + 1) (xs.length - (k + 1))) (trF xs ys (xs.length + 1) s k) (q + 1) = pairN xs ys) := by
          have := HP.out
          rw [hm, prL_new hs] at this
          rw [hm']
          exact this
        clear hm hm'
        go_wp2
        go_loopg [9] (xs.length + 1) (fun f i wr => ∃ (j : Nat) (t : List Bool), j < xs.length ∧ i = .int .i64 j ∧ Hid (OB wr w.heap.size (.slice (some ⟨w2.heap.size, 0, none⟩) t.length xs.length) t ∧ t.length = xs.length ∧ cf t < f ∧
          trF xs ys f t j = trF xs ys (xs.length + 1) s k) ∧ Below w.heap.size w wr)
        case atStart => exact ⟨k, s, hlt, rfl, ⟨HO.out.1, HO.out.2, by have := cf_le s; rw [HO.out.2] at this; omega, rfl⟩, hbel⟩
        case round =>
          obtain ⟨j, t, hj, rfl, HT, hbel'⟩ := hrel
          obtain ⟨g, cc, hv, hBg', hgs', hlc, hcm, hcell, hfz⟩ := HT.out.1.bools (by rw [HT.out.2.1]; omega)
          have hg : w2.heap.size = g := by injection hv with h1 h2 h3; injection h1 with h1; injection h1
          subst hg
          have c2 := hcell j (by rw [HT.out.2.1]; omega)
          by_cases ht : gb t j = true
          · have e : t = trF xs ys (xs.length + 1) s k := by rw [← HT.out.2.2.2, trF_done ht]
            have HT' : Hid (OB wr w.heap.size (.slice (some ⟨w2.heap.size, 0, none⟩) t.length xs.length) t ∧ t.length = xs.length) := ⟨HT.out.1, HT.out.2.1⟩
            have HP'' : Hid (prL xs ys (List.range' (k + 1) (xs.length - (k + 1))) t (q + 1) = pairN xs ys) := by rw [e]; exact HP'
            clear hcell hfz hv hlc hcm e HT
            go_wp2
            go_roundw
            case rel => exact ⟨k + 1, q + 1, t, by omega, by omega, by go_num, by go_num, HT', HP'', hbel'⟩
            case measure => simp [intOf]; omega
          · have ht : gb t j = false := by simpa using ht
            obtain ⟨g1, g2, g3, g4⟩ := isM_gn H1.out hj
            obtain ⟨g5, g6, g7, g8⟩ := isM_gn H2.out (show gn xs j < ys.length by omega)
            obtain ⟨b, off, rfl, hb', hc⟩ := (hx.below hbel').at_ hj
            obtain ⟨b', off', rfl, hb'', hc'⟩ := (hy.below hbel').at_ (show gn xs j < ys.length by omega)
            have c3 := hc j hj
            have c4 := hc' (gn xs j) (by omega)
            have c5 := hcell (gn xs j) (by rw [HT.out.2.1]; omega)
            have f1 := hfz j
            have f2 := hfz (gn xs j)
            rw [g4] at c3
            rw [g8] at c4
            have hne1 : b ≠ w2.heap.size := by omega
            have hne2 : b' ≠ w2.heap.size := by omega
            have hltn : j < t.length := by rw [HT.out.2.1]; omega
            have htl : t.length = xs.length := HT.out.2.1
            obtain ⟨f', hf', hcf, htr⟩ := trF_step HT.out.2.2.1 hltn ht
            have HT' : Hid (OB ((wr.setCell ⟨w2.heap.size, j, none⟩ (.bool true)).setCell ⟨w2.heap.size, gn xs j, none⟩ (.bool true)) w.heap.size (.slice (some ⟨w2.heap.size, 0, none⟩) ((t.set j true).set (gn xs j) true).length xs.length) ((t.set j true).set (gn xs j) true) ∧
                ((t.set j true).set (gn xs j) true).length = xs.length ∧ cf ((t.set j true).set (gn xs j) true) < f' ∧
                trF xs ys f' ((t.set j true).set (gn xs j) true) (gn ys (gn xs j)) = trF xs ys (xs.length + 1) s k) :=
              ⟨OR.stored (OR.stored HT.out.1 true) true, by simpa using htl, hcf, by rw [← htr]; exact HT.out.2.2.2⟩
            have hbn : Below w.heap.size w ((wr.setCell ⟨w2.heap.size, j, none⟩ (.bool true)).setCell ⟨w2.heap.size, gn xs j, none⟩ (.bool true)) :=
              (hbel'.setCell (by simp; omega) _).setCell (by simp; omega) _
            have hjn : ys.length ≤ xs.length := by omega
            have Hf := Lib.hid hf'
            clear hcell hfz hv hlc hcm hc hc' g3 g4 g7 g8 htl htr hcf hf'
            go_wp2
            go_roundg f'
            case measure => have := Hf.out; omega
            case rel => exact ⟨gn ys (gn xs j), _, by omega, rfl, HT', hbn⟩
    · have hkl : xs.length - k = 0 := by omega
      have hq : q = pairN xs ys := by
        have := HP.out
        rw [hkl] at this
        exact this
      have Hq := Lib.hid hq
      clear hkl hq
      go_wp2
      go_ret2
      exact ⟨ret_i2 (by rw [Hq.out]) rfl, hbel⟩

end Go.Proofs.Ytmmcpahaekpknaa
