/-
  A matrix that came in by value, as the law's frame tells it, reads as a list of lists.
  Small laws of the statements of layer 26. No program here but the frames.
  A matrix of ints of the call's own; the product in plain numbers.
-/
import Derived.Test.YteanhbldhaiekaaZ20
import Derived.Test.YteanhbldhaiekaaZ02
import Derived.Test.YteanhbldhaiekaaZ22
import Derived.Test.YteanhbldhaiekaaZ23
import Derived.Lib.SmallJoins
import Derived.ProofKit
import Derived.SliceStrings
namespace Go.Proofs.Yteanhbldhaiekaa
open Go.ChangeShapes Go.WideShapes Go.RowKit Go.Joins

theorem mrow_open {H : Type} {enc : TypeId × Value → H} {W : World} {base n : Nat} {held : Bool} {cs : List Value} {y : DataW H × List MemPlace}
    (g : DataW.trod enc Try.prog W base (fun _ => true) held n 33 cs = some y) : ∃ A c xs, cs = [.slice A xs.length c] ∧ RI W (· < W.heap.size) A xs ∧ xs.length ≤ maxLen ∧ ∀ k, -9223372036854775808 ≤ gi xs k ∧ gi xs k ≤ 9223372036854775807 := by
  rcases open_ints Try.underlying33 Try.underlying3 (by kernel_rfl) g with ⟨hcs, _⟩ | ⟨a, l, c, zs, hcs, _, hl, hm, hz, _, hcell, hwz⟩
  · exact ⟨none, 0, [], hcs, RI.nil, Nat.zero_le _, fun k => by unfold gi; simp⟩
  · obtain ⟨xs, rfl, r, m, b⟩ := row_RI (w := W) (a := some a) (len := l) (cap := c) (zs := zs) (.inr ⟨a, rfl, hl, hm, by simpa using hz, hcell, hwz⟩)
    exact ⟨some a, c, xs, hcs, r, m, b⟩
theorem marg_open {H : Type} {enc : TypeId × Value → H} {W : World} {base n : Nat} {held : Bool} {x : Value} {y : DataW H × List MemPlace}
    (g : DataW.trod enc Try.prog W base (fun _ => true) held n 22 [x] = some y) : ∃ A c xss, x = .slice A xss.length c ∧ AM W A xss.length xss := by
  rcases DataW.trod_slice Try.underlying22 g with ⟨hcs, _⟩ | ⟨a, len, cap, elems, rest, n', _, hcs, _, hb, hl, hm, hlen, hel, hsp, hns⟩
  · injection hcs with hcs
    exact ⟨none, 0, [], hcs, RL.nil _ _ _, rfl, Nat.zero_le _, fun i j hi => absurd hi (Nat.not_lt_zero _)⟩
  · injection hcs with hcs
    have each : ∀ i : Nat, ∃ xs : List Int, i < len → ∃ A c, W.cell? (a.add i) = some (.slice A xs.length c) ∧ RI W (· < W.heap.size) A xs ∧ xs.length ≤ maxLen ∧ ∀ k, -9223372036854775808 ≤ gi xs k ∧ gi xs k ≤ 9223372036854775807 := by
      intro i
      by_cases hi : i < len
      · have h1 := hel i hi
        have h2 : elems[i]? = some (elems[i]'(by omega)) := List.getElem?_eq_getElem (by omega)
        rw [h2, show Try.prog.cellsOf 33 = 1 by kernel_rfl, Nat.mul_one, Option.bind_eq_some_iff] at h1
        obtain ⟨cs', hc1, hc2⟩ := h1
        obtain ⟨A, c, xs, rfl, r, m, b⟩ := mrow_open hc2
        exact ⟨xs, fun _ => ⟨A, c, cell_of_cells?_one hc1, r, m, b⟩⟩
      · exact ⟨[], fun h => absurd h hi⟩
    obtain ⟨f, hf⟩ := Classical.axiomOfChoice each
    have hl2 : ((List.range len).map f).length = len := by simp
    refine ⟨some a, cap, (List.range len).map f, by rw [hl2]; exact hcs, fun hne => ?_, rfl, by rw [hl2]; omega, fun i j hi hj => ?_⟩
    · have hpos : 0 < len := by
        rcases Nat.eq_zero_or_pos len with h | h
        · subst h; simp at hne
        · exact h
      obtain ⟨A0, c0, h0, -, -⟩ := hf 0 hpos
      have e0 : a.add 0 = a := by simp [Addr.add]
      rw [e0] at h0
      have hsp := World.cell?_spot h0
      obtain ⟨b, off, sp⟩ := a
      simp only at hsp
      subst hsp
      refine ⟨b, off, rfl, World.block_lt_of_cell? W _ h0, fun k hk => ?_⟩
      rw [hl2] at hk
      obtain ⟨A, c, h1, h2, h3, -⟩ := hf k hk
      have e : ((List.range len).map f).getD k [] = f k := by simp [hk]
      rw [e]
      rw [Addr.add_lit] at h1
      exact ⟨A, c, h1, h2, h3⟩
    · rw [hl2] at hi
      obtain ⟨A, c, h1, h2, h3, h4⟩ := hf i hi
      have e : ((List.range len).map f).getD i [] = f i := by simp [hi]
      unfold eI
      rw [e]
      exact h4 j
end Go.Proofs.Yteanhbldhaiekaa
namespace Go.Proofs.Yteanhbldhaiekaa
open Go.RowKit

theorem det_dg (n : Nat) (d : Nat → Nat) : det n (dgM d) = pI n fun i => (d i : Int) := by
  rw [det_upper fun i j _ hj => by unfold dgM; rw [if_neg (by omega)]]
  exact pI_congr fun k _ => by unfold dgM; rw [if_pos rfl]
/-- the determinant up to its sign -/
theorem det_eqv {n : Nat} {A B : Mx} (h : Eqv n n A B) : det n B = det n A ∨ det n B = -det n A := by
  induction h with
  | refl => exact .inl rfl
  | cong _ hc ih => rw [det_congr hc]; exact ih
  | radd r s t h1 h2 h3 _ ih => rw [det_radd h1 h2 h3]; exact ih
  | cadd r s t h1 h2 h3 _ ih => rw [det_cadd h1 h2 h3]; exact ih
  | rsw r s h1 h2 h3 _ ih => rw [det_rswap h1 h2 h3]; rcases ih with e | e <;> rw [e] <;> omega
  | csw r s h1 h2 h3 _ ih => rw [det_cswap h1 h2 h3]; rcases ih with e | e <;> rw [e] <;> omega
  | @rneg B r h1 _ ih =>
    rw [det_rmul (A := B) (t := -1) h1 (fun i j _ _ hne => if_neg hne) (fun j _ => by rw [if_pos rfl]; omega)]
    rcases ih with e | e <;> rw [e] <;> omega
  | @cneg B r h1 _ ih =>
    rw [det_cmul (A := B) (t := -1) h1 (fun i j _ _ hne => if_neg hne) (fun j _ => by rw [if_pos rfl]; omega)]
    rcases ih with e | e <;> rw [e] <;> omega
/-- what the list of a small matrix is like -/
structure SmI (n c r : Nat) (m : Mx) (d : Nat → Nat) : Prop where
  rk : RkP n c m r
  rp : r ≤ min n c
  nz : ∀ j, j < r → d j ≠ 0
  z : ∀ j, r ≤ j → j < min n c → d j = 0
  pr : ∀ k, k ≤ min n c → pN k d ≤ bndM n c m
  le : ∀ j, j < min n c → d j ≤ bndM n c m
theorem pN_zero {d : Nat → Nat} {j : Nat} (h0 : d j = 0) : ∀ {k : Nat}, j < k → pN k d = 0
  | k + 1, hj => by
    show pN k d * d k = 0
    by_cases e : j = k
    · rw [← e, h0, Nat.mul_zero]
    · rw [pN_zero h0 (show j < k by omega), Nat.zero_mul]
theorem pN_pI (d : Nat → Nat) : ∀ k, ((pN k d : Nat) : Int) = pI k fun i => (d i : Int)
  | 0 => rfl
  | k + 1 => by show ((pN k d * d k : Nat) : Int) = pI k _ * (d k : Int); rw [Int.natCast_mul, pN_pI d k]
theorem pN_dvd_mono {d : Nat → Nat} {k : Nat} : ∀ l, pN k d ∣ pN (k + l) d
  | 0 => Nat.dvd_refl _
  | l + 1 => Nat.dvd_trans (pN_dvd_mono l) (Nat.dvd_mul_right ..)
theorem ElR.smI {n c r : Nat} {m : Mx} {v : Int} {d : Nat → Nat} (h : ElR n c m r v) (he : Eqv n c m (dgM d)) (hd : Chain d (min n c)) : SmI n c r m d := by
  obtain ⟨h1, h2⟩ := elr_fac h he hd
  have hv : 0 < v.natAbs := Int.natAbs_pos.2 h.nz
  have hrn := h.rn
  have hrc := h.rc
  have hnz : ∀ j, j < r → d j ≠ 0 := fun j hj e => by
    have := h1 j hj
    rw [e] at this
    have := Nat.eq_zero_of_zero_dvd this
    omega
  have hpr : pN r d ∣ v.natAbs := by
    obtain ⟨is, js, s, i1, i2, hs, hv⟩ := h.mn
    have h1 := (dv_diag (n := n) (c := c) (k := r) (d := d) hd).eqv he.symm
    have h2 := h1 is js i1 i2
    rw [← pN_pI] at h2
    have h3 : ((pN r d : Nat) : Int) ∣ v := by rw [hv]; exact Int.dvd_trans h2 (Int.dvd_mul_left ..)
    exact Int.natCast_dvd_natCast.1 (Int.dvd_natAbs.2 h3)
  refine ⟨h.rk, by omega, hnz, h2, fun k hk => ?_, fun j hj => ?_⟩
  · by_cases hkr : k ≤ r
    · have := pN_dvd_mono (d := d) (k := k) (r - k)
      rw [show k + (r - k) = r by omega] at this
      exact Nat.le_trans (Nat.le_of_dvd hv (Nat.dvd_trans this hpr)) h.bd
    · rw [pN_zero (h2 r (Nat.le_refl _) (by omega)) (show r < k by omega)]
      exact Nat.zero_le _
  · exact elr_le h he hd hj
theorem Sml.lt {xss : List (List Int)} (h : Sml xss) : bndM xss.length (rowL xss 0) (eI xss) ≤ 1125899906842624 := h
theorem rkE_0 {xss : List (List Int)} (hm : IsM xss) (hs : Sml xss) : rkE xss = 0 := by unfold rkE; rw [if_pos hm, if_pos hs]
theorem rkE_9 {xss : List (List Int)} (hm : IsM xss) (hs : ¬ Sml xss) : rkE xss = 9 := by unfold rkE; rw [if_pos hm, if_neg hs]
theorem rkE_1 {xss : List (List Int)} (hm : ¬ IsM xss) : rkE xss = 1 := by unfold rkE; rw [if_neg hm]
theorem below_cons {w w1 w2 : World} (h : Below w.heap.size w w1) (hb : Below w1.heap.size w1 w2) : Below w.heap.size w w2 := h.trans (hb.mono h.size)
theorem u16_wf {n : Int} (h : (Lit.int .u16 n).wf = true) : 0 ≤ n ∧ n ≤ 65535 := by
  have hmin : IntKind.u16.min = 0 := rfl
  have hmax : IntKind.u16.max = 65535 := rfl
  simp only [Lit.wf, Bool.and_eq_true, decide_eq_true_eq] at h
  omega
end Go.Proofs.Yteanhbldhaiekaa
namespace Go.Proofs.Yteanhbldhaiekaa
open Go.RowKit

/-- a matrix of ints in blocks from B on: n rows, c columns -/
structure MI (w : World) (B : Nat) (bA n c : Nat) (bs : Nat → Nat) (a : Nat → Nat → Int) : Prop where
  hd : ∀ i, i < n → w.cell? ⟨bA, i, none⟩ = some (.slice (some ⟨bs i, 0, none⟩) c c)
  ad : ∀ i, i < n → B ≤ bs i ∧ bs i < w.heap.size ∧ bs i ≠ bA
  ij : ∀ i k, i < n → k < n → bs i = bs k → i = k
  en : ∀ i j, i < n → j < c → w.cell? ⟨bs i, j, none⟩ = some (.int .i64 (a i j))
  fr : ∀ i j, i < n → j < c → w.frozen? ⟨bs i, j, none⟩ = false
section
variable {w w' : World} {B bA n c : Nat} {bs : Nat → Nat} {a : Nat → Nat → Int}
theorem MI.keep (h : MI w B bA n c bs a) (hA : B ≤ bA) (hs : w.heap.size ≤ w'.heap.size) (hAl : bA < w.heap.size) (hk : ∀ b, B ≤ b → b < w.heap.size → w'.heap[b]? = w.heap[b]?) : MI w' B bA n c bs a :=
  ⟨fun i hi => (World.cell?_of_block (a := ⟨bA, i, none⟩) (hk _ hA hAl)).trans (h.hd i hi),
   fun i hi => by obtain ⟨h1, h2, h3⟩ := h.ad i hi; exact ⟨h1, by omega, h3⟩, h.ij,
   fun i j hi hj => by obtain ⟨h1, h2, h3⟩ := h.ad i hi; exact (World.cell?_of_block (a := ⟨bs i, j, none⟩) (hk _ h1 h2)).trans (h.en i j hi hj),
   fun i j hi hj => by obtain ⟨h1, h2, h3⟩ := h.ad i hi; exact (World.frozen?_of_block (a := ⟨bs i, j, none⟩) (hk _ h1 h2)).trans (h.fr i j hi hj)⟩
theorem MI.heap (h : MI w B bA n c bs a) (e : w'.heap = w.heap) : MI w' B bA n c bs a :=
  ⟨fun i hi => (World.cell?_of_block (a := ⟨bA, i, none⟩) (by rw [e])).trans (h.hd i hi), fun i hi => by rw [e]; exact h.ad i hi, h.ij,
   fun i j hi hj => (World.cell?_of_block (a := ⟨bs i, j, none⟩) (by rw [e])).trans (h.en i j hi hj), fun i j hi hj => (World.frozen?_of_block (a := ⟨bs i, j, none⟩) (by rw [e])).trans (h.fr i j hi hj)⟩
theorem MI.congr {b : Nat → Nat → Int} (h : MI w B bA n c bs a) (he : ∀ i j, i < n → j < c → a i j = b i j) : MI w B bA n c bs b :=
  ⟨h.hd, h.ad, h.ij, fun i j hi hj => by rw [← he i j hi hj]; exact h.en i j hi hj, h.fr⟩
theorem MI.zero (w : World) (B bA c : Nat) : MI w B bA 0 c (fun _ => 0) (fun _ _ => 0) :=
  ⟨fun i hi => by omega, fun i hi => by omega, fun i k hi => by omega, fun i j hi => by omega, fun i j hi => by omega⟩
theorem MI.store (h : MI w B bA n c bs a) {i j : Nat} (hi : i < n) (hj : j < c) (v : Int) :
    MI (w.setCell ⟨bs i, j, none⟩ (.int .i64 v)) B bA n c bs (fun x y => if x = i ∧ y = j then v else a x y) := by
  obtain ⟨h1, h2, h3⟩ := h.ad i hi
  refine ⟨fun x hx => ?_, fun x hx => ?_, h.ij, fun x y hx hy => ?_, fun x y hx hy => ?_⟩
  · rw [set_other (by intro e; injection e with e; exact h3 e)]; exact h.hd x hx
  · rw [World.size_setCell]; exact h.ad x hx
  · by_cases e : x = i ∧ y = j
    · obtain ⟨rfl, rfl⟩ := e
      rw [if_pos ⟨rfl, rfl⟩]
      exact set_same (h.en x y hi hj)
    · rw [if_neg e, set_other]
      · exact h.en x y hx hy
      · intro e2
        injection e2 with e3 e4
        exact e ⟨h.ij x i hx hi e3.symm, e4.symm⟩
  · rw [World.frozen?_setCell]; exact h.fr x y hx hy
theorem MI.push (h : MI w B bA n c bs a) (hB : B ≤ w.heap.size) (hA : bA < w.heap.size) {v : Value} (hc : w.cell? ⟨bA, n, none⟩ = some v) :
    MI ((w.alloc (.cells (List.replicate c (Value.int .i64 0)).toArray 3)).setCell ⟨bA, n, none⟩ (.slice (some ⟨w.heap.size, 0, none⟩) c c)) B bA (n + 1) c (up bs n w.heap.size) (up a n fun _ => 0) := by
  have hne : w.heap.size ≠ bA := by omega
  have old : ∀ b, b < w.heap.size → ∀ j, (w.alloc (.cells (List.replicate c (Value.int .i64 0)).toArray 3)).cell? ⟨b, j, none⟩ = w.cell? ⟨b, j, none⟩ := fun b hb j => World.cell?_of_block (a := ⟨b, j, none⟩) (Below.heap_alloc w _ b hb)
  refine ⟨fun x hx => ?_, fun x hx => ?_, fun x y hx hy e => ?_, fun x y hx hy => ?_, fun x y hx hy => ?_⟩
  · unfold up
    by_cases e : x = n
    · subst e
      rw [if_pos rfl]
      exact set_same ((old bA hA x).trans hc)
    · rw [if_neg e, set_other (by intro e2; injection e2 with _ e2; exact e e2.symm), old bA hA x]
      exact h.hd x (by omega)
  · rw [World.size_setCell]
    unfold up
    split
    · exact ⟨hB, by simp, hne⟩
    · obtain ⟨h1, h2, h3⟩ := h.ad x (by omega)
      exact ⟨h1, by simp; omega, h3⟩
  · unfold up at e
    split at e <;> split at e
    · omega
    · obtain ⟨h1, h2, h3⟩ := h.ad y (by omega); omega
    · obtain ⟨h1, h2, h3⟩ := h.ad x (by omega); omega
    · exact h.ij x y (by omega) (by omega) e
  · unfold up
    by_cases e : x = n
    · rw [if_pos e, if_pos e, set_other (by intro e2; injection e2 with e2; exact hne e2.symm)]
      exact (cell_rep hy).1
    · obtain ⟨h1, h2, h3⟩ := h.ad x (by omega)
      rw [if_neg e, if_neg e, set_other (by intro e2; injection e2 with e2; exact h3 e2.symm), old _ h2]
      exact h.en x y (by omega) hy
  · rw [World.frozen?_setCell]
    unfold up
    by_cases e : x = n
    · rw [if_pos e]
      exact (cell_rep hy).2
    · obtain ⟨h1, h2, h3⟩ := h.ad x (by omega)
      rw [if_neg e]
      exact (World.frozen?_of_block (a := ⟨bs x, y, none⟩) (Below.heap_alloc w _ _ h2)).trans (h.fr x y (by omega) hy)
end
/-- the list of a matrix in numbers -/
def mkL (n c : Nat) (a : Nat → Nat → Int) : List (List Int) := (List.range n).map fun i => (List.range c).map fun j => a i j
theorem mkL_len (n c : Nat) (a : Nat → Nat → Int) : (mkL n c a).length = n := by simp [mkL]
theorem mkL_row {n c i : Nat} {a : Nat → Nat → Int} (hi : i < n) : (mkL n c a).getD i [] = (List.range c).map fun j => a i j := by simp [mkL, hi]
theorem mkL_rowL {n c i : Nat} {a : Nat → Nat → Int} (hi : i < n) : rowL (mkL n c a) i = c := by unfold rowL; rw [mkL_row hi]; simp
theorem mkL_eI {n c i j : Nat} {a : Nat → Nat → Int} (hi : i < n) (hj : j < c) : eI (mkL n c a) i j = a i j := by
  unfold eI
  rw [mkL_row hi, gi_lt (by simpa using hj)]
  simp
theorem mkL_IsM {n c : Nat} {a : Nat → Nat → Int} (hn : n ≤ 64) (hc : c ≤ 64) : IsM (mkL n c a) := by
  refine ⟨fun i hi => ?_, by rw [mkL_len]; exact hn, ?_⟩
  · rw [mkL_len] at hi
    rw [mkL_rowL hi, mkL_rowL (by omega)]
  · rcases Nat.eq_zero_or_pos n with h | h
    · rw [rowL_nil (by rw [mkL_len]; exact h)]; omega
    · rw [mkL_rowL h]; exact hc
theorem MI.am {w : World} {B bA n c : Nat} {bs : Nat → Nat} {a : Nat → Nat → Int} (h : MI w B bA n c bs a) (hA : bA < w.heap.size) (hn : n ≤ maxLen) (hc : c ≤ maxLen) (hb : ∀ i j, i < n → j < c → -9223372036854775808 ≤ a i j ∧ a i j ≤ 9223372036854775807) :
    AM w (some ⟨bA, 0, none⟩) n (mkL n c a) := by
  refine ⟨fun _ => ⟨bA, 0, rfl, hA, fun k hk => ?_⟩, mkL_len _ _ _, hn, fun i j hi hj => ?_⟩
  · rw [mkL_len] at hk
    rw [mkL_row hk]
    refine ⟨some ⟨bs k, 0, none⟩, c, by rw [Nat.zero_add]; simpa using h.hd k hk, fun _ => ⟨bs k, 0, rfl, (h.ad k hk).2.1, fun j hj => ?_⟩, by simpa using hc⟩
    have hj' : j < c := by simpa using hj
    rw [Nat.zero_add, h.en k j hk hj', gi_lt hj]
    simp
  · rw [mkL_rowL hi] at hj
    rw [mkL_eI hi hj]
    exact hb i j hi hj
/-- the product; its weights; the error of Mul -/
def prM (a b : List (List Int)) : Nat → Nat → Int := fun i k => sI b.length fun j => eI a i j * eI b j k
def wtN (a b : List (List Int)) (i k l : Nat) : Nat := sN l fun j => (eI a i j).natAbs * (eI b j k).natAbs
def Sm1 (a : List (List Int)) : Prop := ∀ i, i < a.length → ∀ j, j < rowL a i → (eI a i j).natAbs ≤ 1125899906842624
def Wt1 (a b : List (List Int)) : Prop := ∀ i, i < a.length → ∀ k, k < rowL b 0 → wtN a b i k b.length ≤ 1125899906842624
instance (a : List (List Int)) : Decidable (Sm1 a) := by unfold Sm1; infer_instance
instance (a b : List (List Int)) : Decidable (Wt1 a b) := by unfold Wt1; infer_instance
def mlE (a b : List (List Int)) : Nat := if IsM a ∧ IsM b ∧ rowL a 0 = b.length then if (Sm1 a ∧ Sm1 b) ∧ Wt1 a b then 0 else 9 else 1
def mlL (a b : List (List Int)) : List (List Int) := if mlE a b = 0 then mkL a.length (rowL b 0) (prM a b) else []
theorem pr_le (a b : List (List Int)) (i k : Nat) : ∀ l, (sI l fun j => eI a i j * eI b j k).natAbs ≤ wtN a b i k l
  | 0 => Nat.le_refl _
  | l + 1 => by
    show ((sI l fun j => eI a i j * eI b j k) + eI a i l * eI b l k).natAbs ≤ wtN a b i k l + (eI a i l).natAbs * (eI b l k).natAbs
    have h1 := pr_le a b i k l
    have h2 := Int.natAbs_add_le (sI l fun j => eI a i j * eI b j k) (eI a i l * eI b l k)
    rw [Int.natAbs_mul] at h2
    omega
end Go.Proofs.Yteanhbldhaiekaa
