/-
  The contract of isolate.
-/
import Derived.Test.YtjlokbolmindgaaIsoP
import Derived.Test.YtjlokbolmindgaaCol
namespace Go.Proofs.Ytjlokbolmindgaa
open Go.RowKit

/-- what was there is kept but for blocks of S -/
structure Gm (S : Nat → Prop) (w w' : World) : Prop where
  os : w'.os = w.os
  tape : w'.tape = w.tape
  output : w'.output = w.output
  size : w.heap.size ≤ w'.heap.size
  block : ∀ b, b < w.heap.size → ¬ S b → w'.heap[b]? = w.heap[b]?
theorem Gm.refl (S : Nat → Prop) (w : World) : Gm S w w := ⟨rfl, rfl, rfl, Nat.le_refl _, fun _ _ _ => rfl⟩
theorem Gm.trans {S : Nat → Prop} {a b c : World} (h : Gm S a b) (k : Gm S b c) : Gm S a c :=
  ⟨k.os.trans h.os, k.tape.trans h.tape, k.output.trans h.output, Nat.le_trans h.size k.size, fun x hx hs => (k.block x (Nat.lt_of_lt_of_le hx h.size) hs).trans (h.block x hx hs)⟩
theorem Gm.of {S : Nat → Prop} {a b : World} (h : Fm S a b) : Gm S a b := ⟨h.os, h.tape, h.output, Nat.le_of_eq h.size.symm, fun x _ hs => h.block x hs⟩
theorem Gm.alloc (S : Nat → Prop) (w : World) (o : Obj) : Gm S w (w.alloc o) := ⟨rfl, rfl, rfl, by simp, fun b hb _ => Below.heap_alloc w o b hb⟩
theorem Gm.drewN {S : Nat → Prop} {a b : World} (h : Gm S a b) (n : Nat) : Gm S a (b.drewN n) := ⟨h.os, h.tape, h.output, h.size, h.block⟩
theorem Gm.below {S : Nat → Prop} {a b : World} (h : Gm S a b) {B : Nat} (hB : B ≤ a.heap.size) (hS : ∀ x, S x → B ≤ x) : Below B a b :=
  ⟨h.os, h.tape, h.output, h.size, fun k hk => h.block k (by omega) fun hs => by have := hS k hs; omega⟩
/-- the diagonal before k is kept -/
def Ke (k : Nat) (a0 a : Nat → Nat → Nat) : Prop := ∀ x, x < k → a x x = a0 x x
theorem Ke.row {M k i : Nat} {a0 a : Nat → Nat → Nat} (h : Ke k a0 a) (hi : k < i) : Ke k a0 (rsN M k i a) := fun x hx => by
  rw [← h x hx]
  unfold rsN rsB
  rw [if_neg (by omega)]
  unfold rsA
  split
  · rfl
  · rw [xg_o (by omega) (by omega)]
theorem Ke.col {M k j : Nat} {a0 a : Nat → Nat → Nat} (h : Ke k a0 a) : Ke k a0 (csN M k j a) := fun x hx => by
  rw [← h x hx]
  unfold csN csB
  rw [if_neg (by omega)]
  unfold csA
  split
  · rfl
  · rw [if_neg (by omega)]
/-- the matrix in the world of a round -/
def IS (W wr : World) (S : Nat → Prop) (bA n c k : Nat) (a0 a : Nat → Nat → Nat) : Prop := (∃ A bs, MX wr S (some ⟨bA, 0, none⟩) bA n c A bs a) ∧ Fm S W wr ∧ Ke k a0 a
theorem IS.drewN {W wr : World} {S : Nat → Prop} {bA n c k : Nat} {a0 a : Nat → Nat → Nat} (h : IS W wr S bA n c k a0 a) (q : Nat) : IS W (wr.drewN q) S bA n c k a0 a := by
  obtain ⟨⟨A, bs, h1⟩, h2, h3⟩ := h
  exact ⟨⟨A, bs, h1.drewN q⟩, h2.drewN q, h3⟩
theorem IS.row {W wr w' : World} {S : Nat → Prop} {bA n c k M i : Nat} {a0 a : Nat → Nat → Nat} (h : IS W wr S bA n c k a0 a) (h1 : ∃ A' bs', MX w' S (some ⟨bA, 0, none⟩) bA n c A' bs' (rsN M k i a)) (h2 : Fm S wr w') (hi : k < i) : IS W w' S bA n c k a0 (rsN M k i a) :=
  ⟨h1, h.2.1.trans h2, h.2.2.row hi⟩
theorem IS.col {W wr w' : World} {S : Nat → Prop} {bA n c k M j : Nat} {a0 a : Nat → Nat → Nat} (h : IS W wr S bA n c k a0 a) (h1 : ∃ A' bs', MX w' S (some ⟨bA, 0, none⟩) bA n c A' bs' (csN M k j a)) (h2 : Fm S wr w') : IS W w' S bA n c k a0 (csN M k j a) :=
  ⟨h1, h.2.1.trans h2, h.2.2.col⟩
set_option maxHeartbeats 8000000 in
theorem isolate_any {w : World} {S : Nat → Prop} {bA n c : Nat} {A : Nat → Option Addr} {bs : Nat → Nat} {a : Nat → Nat → Nat} {m : Mx} (k M : Nat) (h : MX w S (some ⟨bA, 0, none⟩) bA n c A bs a) (hS : ∀ b, S b → b < w.heap.size)
    (hk : k < n) (hkc : k < c) (hnl : n ≤ 64) (hcl : c ≤ 64) (hI : Iso n c M k m a) (hM : M ≤ 4611686018427387904) :
    Calls Try.prog 45 #[.slice (some ⟨bA, 0, none⟩) n n, .int .i64 k, .int .u64 M] w fun e w' =>
      e = .returned (.tuple #[]) ∧ (∃ A' bs' a', MX w' S (some ⟨bA, 0, none⟩) bA n c A' bs' a' ∧ Sm n c M m a' ∧ Dg n c (k + 1) a' ∧ Ke k a a') ∧ Gm S w w' := by
  have HX := Lib.hid h
  have HS := Lib.hid hS
  have HI := Lib.hid hI
  clear h hS hI
  go_enter Try.func45, Try.ntmps45
  go_wp2_with fail
  obtain ⟨W, hW⟩ : ∃ W, ((w.alloc (.cells #[.slice (some ⟨bA, 0, none⟩) n n] 61)).alloc (.cells #[.int .i64 k] 3)).alloc (.cells #[.int .u64 M] 54) = W := ⟨_, rfl⟩
  have hGW : Gm S w W := by rw [← hW]; exact ((Gm.alloc S _ _).trans (Gm.alloc S _ _)).trans (Gm.alloc S _ _)
  have hmW : MX W S (some ⟨bA, 0, none⟩) bA n c A bs a := by rw [← hW]; exact ((HX.out.alloc _).alloc _).alloc _
  have hib : IB W S w.heap.size (w.heap.size + 1) (w.heap.size + 1 + 1) bA n k M := by
    rw [← hW]
    refine ⟨?_, ?_, ?_, fun h => ?_, fun h => ?_, fun h => ?_⟩
    · rw [World.cell?_alloc_lt _ _ ⟨w.heap.size, 0, none⟩ (by simp <;> omega), World.cell?_alloc_lt _ _ ⟨w.heap.size, 0, none⟩ (by simp <;> omega), World.cell?_alloc_new]; rfl
    · rw [World.cell?_alloc_lt _ _ ⟨w.heap.size + 1, 0, none⟩ (by simp <;> omega), show w.heap.size + 1 = (w.alloc (.cells #[.slice (some ⟨bA, 0, none⟩) n n] 61)).heap.size by simp, World.cell?_alloc_new]; rfl
    · rw [show w.heap.size + 1 + 1 = ((w.alloc (.cells #[.slice (some ⟨bA, 0, none⟩) n n] 61)).alloc (.cells #[.int .i64 k] 3)).heap.size by simp, World.cell?_alloc_new]; rfl
    · have := HS.out _ h; omega
    · have := HS.out _ h; omega
    · have := HS.out _ h; omega
  have HW := Lib.hid hmW
  have HG := Lib.hid hGW
  have HB := Lib.hid hib
  rw [hW]
  clear hW hmW hGW hib
  generalize w.heap.size + 1 + 1 = b5 at HB ⊢
  generalize w.heap.size + 1 = b4 at HB ⊢
  generalize w.heap.size = b3 at HB ⊢
  have H0 : Hid (IS W W S bA n c k a a) := ⟨⟨A, bs, HW.out⟩, Fm.refl _ _, fun _ _ => rfl⟩
  clear HW HX HS
  go_loopg [8] (mu n c k a + 1) (fun f t' wr => ∃ (t : Bool) (a1 : Nat → Nat → Nat), t' = .bool t ∧ Hid (IS W wr S bA n c k a a1) ∧ Hid (Iso n c M k m a1) ∧ Hid (t = true → mu n c k a1 < f) ∧ Hid (t = false → C0 n k a1 ∧ R0 c k a1))
  case atStart => exact ⟨true, a, rfl, H0, HI, fun _ => Nat.lt_succ_self _, (fun e => by cases e)⟩
  case round =>
    clear H0 HI
    obtain ⟨t, a1, rfl, HS, HI, HT, HF⟩ := hrel
    cases t
    · have HC := Lib.hid (HF.out rfl)
      clear HT HF
      go_wp2_with fail
      refine bodyPost_end (results_none rfl _ _ _) rfl ?_
      obtain ⟨⟨A1, bs1, h1⟩, h2, h3⟩ := HS.out
      exact ⟨rfl, ⟨A1, bs1, a1, h1, HI.out.sm, HI.out.done HC.out, h3⟩, HG.out.trans (Gm.of h2)⟩
    · have c4 := (HB.out.fm HS.out.2.1).c4
      have HP0 : Hid (RPh n c M k m a1 (k + 1) a1) := RPh.start HI.out
      have HMU := Lib.hid (HT.out rfl)
      clear HT HF
      go_wp2_with fail
      go_loopw [9] (fun i' wr => ∃ (i : Nat) (a2 : Nat → Nat → Nat), k + 1 ≤ i ∧ i ≤ n ∧ i' = .int .i64 i ∧ Hid (IS W wr S bA n c k a a2) ∧ Hid (RPh n c M k m a1 i a2)) (fun i _ => n - (intOf i).toNat)
      case atStart => exact ⟨k + 1, a1, Nat.le_refl _, hk, by go_num, HS, HP0⟩
      case round =>
        clear HS HP0 c4
        obtain ⟨i, a2, hki, hin, rfl, HS, HP⟩ := hrel
        have c3 := (HB.out.fm HS.out.2.1).c3
        by_cases hlt : i < n
        · have HIN : Hid (RIn n c M k m a1 i (a2 i k) a2) := HP.out.enter
          go_wp2_with fail
          go_loopg [] (a2 i k + 1) (fun f wr => ∃ (v : Nat) (a3 : Nat → Nat → Nat), v < f ∧ Hid (IS W wr S bA n c k a a3) ∧ Hid (RIn n c M k m a1 i v a3))
          case atStart => exact ⟨a2 i k, a2, Nat.lt_succ_self _, HS, HIN⟩
          case round =>
            clear HS HP HIN c3
            obtain ⟨v, a3, hvf, HS, HI3⟩ := hrel
            obtain ⟨⟨A3, bs3, hm3⟩, hf3, hk3⟩ := HS.out
            have hib := HB.out.fm hf3
            have c3 := hib.c3
            have c4 := hib.c4
            have d1 := hm3.hd i hlt
            have d2 := hm3.en i k hlt hkc
            rw [(hm3.ad i hlt (by omega)).1] at d1
            rw [HI3.out.ev] at d2
            have HM3 := Lib.hid hm3
            clear hm3 hf3 hk3 hib
            by_cases hv : v = 0
            · subst hv
              have HP4 : Hid (RPh n c M k m a1 (i + 1) a3) := HI3.out.leave
              go_wp2_with fail
              go_quiet (fail)
              go_wp2_with fail
              go_roundw
              case rel => exact ⟨i + 1, a3, by omega, by omega, by go_num, HS.out.drewN _, HP4⟩
              case measure => simp [intOf]; omega
            · have hv' : ((v : Int) != 0) = true := by rw [bne_iff_ne]; omega
              have hst := HI3.out.step (by omega) hlt hkc hv
              have HST := Lib.hid hst
              clear hst
              go_wp2_with fail
              go_quiet (fail)
              go_wp2_with fail
              refine (rowstep_any (w := wr.drewN nq) b3 b4 b5 k i M (HM3.out.drewN nq) (HB.out.fm (HS.out.drewN nq).2.1) (by omega) hlt hkc hnl hcl HI3.out.iso.pv HI3.out.iso.sm.lt hM).mono ?_
              rintro e w7 ⟨rfl, hm7, hf7⟩
              have HS7 := Lib.hid ((HS.out.drewN nq).row hm7 hf7 (by omega))
              clear hm7 hf7
              go_wp2_with fail
              go_roundg v
              case measure => exact hvf
              case rel => exact ⟨_, _, HST.out.1, HS7, HST.out.2⟩
        · obtain rfl : i = n := by omega
          have HC0 : Hid (CPh i c M k m a1 (k + 1) false a2) := HP.out.turn
          have c4 := (HB.out.fm HS.out.2.1).c4
          clear HP
          go_wp2_with fail
          go_loopw [8, 10] (fun t' j' wr => ∃ (t : Bool) (j : Nat) (a2 : Nat → Nat → Nat), k + 1 ≤ j ∧ j ≤ c ∧ t' = .bool t ∧ j' = .int .i64 j ∧ Hid (IS W wr S bA i c k a a2) ∧ Hid (CPh i c M k m a1 j t a2)) (fun _ j _ => c - (intOf j).toNat)
          case atStart => exact ⟨false, k + 1, a2, Nat.le_refl _, hkc, rfl, by go_num, HS, HC0⟩
          case round =>
            clear HS HC0 c3 c4
            obtain ⟨t, j, a2, hkj, hjc, rfl, rfl, HS, HP⟩ := hrel
            obtain ⟨⟨A2, bs2, hm2⟩, hf2, hk2⟩ := HS.out
            have hib := HB.out.fm hf2
            have c3 := hib.c3
            have c4 := hib.c4
            have d1 := hm2.hd k hk
            clear hm2 hf2 hk2 hib
            by_cases hltj : j < c
            · have HIN : Hid (CIn i c M k m a1 j (a2 k j) t a2) := HP.out.enter
              go_wp2_with fail
              go_loopg [8] (a2 k j + 1) (fun f t' wr => ∃ (t : Bool) (v : Nat) (a3 : Nat → Nat → Nat), t' = .bool t ∧ v < f ∧ Hid (IS W wr S bA i c k a a3) ∧ Hid (CIn i c M k m a1 j v t a3))
              case atStart => exact ⟨t, a2 k j, a2, rfl, Nat.lt_succ_self _, HS, HIN⟩
              case round =>
                clear HS HP HIN c3 c4 d1
                obtain ⟨t, v, a3, rfl, hvf, HS, HI3⟩ := hrel
                obtain ⟨⟨A3, bs3, hm3⟩, hf3, hk3⟩ := HS.out
                have hib := HB.out.fm hf3
                have c3 := hib.c3
                have c4 := hib.c4
                have d1 := hm3.hd k hk
                have d2 := hm3.en k j hk hltj
                rw [(hm3.ad k hk (by omega)).1] at d1
                rw [HI3.out.ev] at d2
                have HM3 := Lib.hid hm3
                clear hm3 hf3 hk3 hib
                by_cases hv : v = 0
                · subst hv
                  have HP4 : Hid (CPh i c M k m a1 (j + 1) t a3) := HI3.out.leave
                  go_wp2_with fail
                  go_roundw
                  case rel => exact ⟨t, j + 1, a3, by omega, by omega, rfl, by go_num, HS.out, HP4⟩
                  case measure => simp [intOf]; omega
                · have hv' : ((v : Int) != 0) = true := by rw [bne_iff_ne]; omega
                  have HST := Lib.hid (HI3.out.step (by omega) hltj hk hv)
                  go_wp2_with fail
                  refine (colstep_any (w := wr) b3 b4 b5 k j M HM3.out (HB.out.fm HS.out.2.1) (by omega) hltj hk hnl hcl HI3.out.iso.pv HI3.out.iso.sm.lt hM).mono ?_
                  rintro e w7 ⟨rfl, hm7, hf7⟩
                  have HS7 := Lib.hid (HS.out.col hm7 hf7)
                  clear hm7 hf7
                  go_wp2_with fail
                  go_roundg v
                  case measure => exact hvf
                  case rel => exact ⟨true, _, _, rfl, HST.out.1, HS7, HST.out.2⟩
            · obtain rfl : j = c := by omega
              have HFN := Lib.hid HP.out.finish
              have HIS := Lib.hid HP.out.iso
              go_wp2_with fail
              go_roundg (mu i j k a1)
              case measure => exact HMU.out
              case rel => exact ⟨t, a2, rfl, HS.out, HIS, HFN.out.2, HFN.out.1⟩
end Go.Proofs.Ytjlokbolmindgaa

