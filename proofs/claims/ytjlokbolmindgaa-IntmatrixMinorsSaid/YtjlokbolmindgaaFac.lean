/-
  The contract of factors.
-/
import Derived.Test.YtjlokbolmindgaaIso
import Derived.Test.YtjlokbolmindgaaFacP
import Derived.Test.YtjlokbolmindgaaIs
import Derived.BigRegion
namespace Go.Proofs.Ytjlokbolmindgaa
open Go.RowKit

section
variable {n c M k i j : Nat} {m : Mx} {a : Nat → Nat → Nat}
theorem Sm.find (h : Sm n c M m a) (hi : k ≤ i ∧ i < n) (hj : k ≤ j ∧ j < c) : Sm n c M m (fun x y => a (xg i k x) (xg j k y)) := by
  have h1 : Sm n c M m (fun x y => a (xg i k x) y) := by
    by_cases e : i = k
    · subst e
      simp only [xg_self]
      exact h
    · exact h.rsw hi.2 (by omega) e
  by_cases e : j = k
  · subst e
    simp only [xg_self] at h1 ⊢
    exact h1
  · exact h1.csw hj.2 (by omega) e
theorem xg_lo {i k x : Nat} (hi : k ≤ i) (hx : x < k) : xg i k x = x := xg_o (by omega) (by omega)
theorem Dg.find (h : Dg n c k a) (hi : k ≤ i ∧ i < n) (hj : k ≤ j ∧ j < c) : Dg n c k (fun x y => a (xg i k x) (xg j k y)) := fun x y hx hy ho hne => by
  have hxl := xg_lt hi.2 (show k < n by omega) hx
  have hyl := xg_lt hj.2 (show k < c by omega) hy
  show a (xg i k x) (xg j k y) = 0
  by_cases e : x < k
  · rw [xg_lo hi.1 e] at hxl ⊢
    refine h x _ hxl hyl (.inl e) ?_
    by_cases e2 : y < k
    · rw [xg_lo hj.1 e2]; exact hne
    · have := xg_ge (x := y) hj.1 (by omega); omega
  · rw [xg_lo hj.1 (show y < k by omega)] at hyl ⊢
    exact h _ y hxl hyl (.inr (by omega)) (by have := xg_ge (x := x) hi.1 (by omega); omega)
theorem Dg.no (h : Dg n c k a) (hz : ∀ i j, k ≤ i → i < n → k ≤ j → j < c → a i j = 0) : Dg n c (k + 1) a := fun x y hx hy ho hne => by
  by_cases e : x < k ∨ y < k
  · exact h x y hx hy e hne
  · exact hz x y (by omega) hx (by omega) hy
end
/-- a row of u64 numbers of the call's own -/
structure UR (w : World) (b p : Nat) (x : Nat → Nat) : Prop where
  lt : b < w.heap.size
  en : ∀ j, j < p → w.cell? ⟨b, j, none⟩ = some (.int .u64 (x j : Nat))
  fr : ∀ j, j < p → w.frozen? ⟨b, j, none⟩ = false
section
variable {w w' : World} {b p : Nat} {x : Nat → Nat}
theorem UR.keep (h : UR w b p x) (hs : w.heap.size ≤ w'.heap.size) (hk : w'.heap[b]? = w.heap[b]?) : UR w' b p x :=
  ⟨Nat.lt_of_lt_of_le h.lt hs, fun j hj => (World.cell?_of_block (a := ⟨b, j, none⟩) hk).trans (h.en j hj), fun j hj => (World.frozen?_of_block (a := ⟨b, j, none⟩) hk).trans (h.fr j hj)⟩
theorem UR.drewN (h : UR w b p x) (k : Nat) : UR (w.drewN k) b p x := h.keep (Nat.le_refl _) rfl
theorem UR.heap (h : UR w b p x) (e : w'.heap = w.heap) : UR w' b p x := h.keep (by rw [e]; exact Nat.le_refl _) (by rw [e])
theorem UR.alloc (h : UR w b p x) (o : Obj) : UR (w.alloc o) b p x := h.keep (by simp) (Below.heap_alloc w o b h.lt)
theorem UR.fm {S : Nat → Prop} (h : UR w b p x) (hf : Fm S w w') (hb : ¬ S b) : UR w' b p x := h.keep (Nat.le_of_eq hf.size.symm) (hf.block b hb)
theorem UR.gm {S : Nat → Prop} (h : UR w b p x) (hf : Gm S w w') (hb : ¬ S b) : UR w' b p x := h.keep hf.size (hf.block b h.lt hb)
theorem UR.store (h : UR w b p x) {i : Nat} (hi : i < p) (v : Nat) : UR (w.setCell ⟨b, i, none⟩ (.int .u64 (v : Nat))) b p (up x i v) :=
  ⟨by rw [World.size_setCell]; exact h.lt, fun j hj => by
    unfold up
    by_cases e : j = i
    · subst e; rw [if_pos rfl]; exact set_same (h.en j hj)
    · rw [if_neg e, set_other (by intro e2; injection e2 with _ e2; exact e e2.symm)]; exact h.en j hj, fun j hj => by rw [World.frozen?_setCell]; exact h.fr j hj⟩
theorem UR.other (h : UR w b p x) {g : Nat} (hg : g ≠ b) (i : Nat) (v : Value) : UR (w.setCell ⟨g, i, none⟩ v) b p x :=
  h.keep (by rw [World.size_setCell]; exact Nat.le_refl _) (Below.heap_setCell w _ _ b (by rintro rfl; exact hg rfl))
theorem UR.congr {y : Nat → Nat} (h : UR w b p x) (he : ∀ j, j < p → x j = y j) : UR w b p y := ⟨h.lt, fun j hj => by rw [← he j hj]; exact h.en j hj, h.fr⟩
theorem UR.new (w : World) (p : Nat) : UR (w.alloc (.cells (List.replicate p (Value.int .u64 0)).toArray 54)) w.heap.size p (fun _ => 0) :=
  ⟨by simp, fun _ hj => (cell_rep hj).1, fun _ hj => (cell_rep hj).2⟩
end
/-- the first phase, k elements of the diagonal done -/
def F1 (w w1 wr : World) (P : Option Addr) (bA n c M : Nat) (m : Mx) (p k : Nat) (a : Nat → Nat → Nat) (x : Nat → Nat) : Prop :=
  (∃ A bs, MX wr (fun b => w.heap.size ≤ b ∧ b < w1.heap.size) P bA n c A bs a) ∧ UR wr w1.heap.size p x ∧ Below w.heap.size w wr ∧ w.heap.size ≤ w1.heap.size ∧ Sm n c M m a ∧ Dg n c k a ∧ ∀ j, j < k → x j = Nat.gcd (a j j) M
section
variable {w w1 wr w2 : World} {P : Option Addr} {bA n c M p k : Nat} {m : Mx} {a : Nat → Nat → Nat} {x : Nat → Nat}
theorem F1.start {A : Nat → Option Addr} {bs : Nat → Nat} (h : MX w1 (fun b => w.heap.size ≤ b) P bA n c A bs a) (hb : Below w.heap.size w w1) (hs : Sm n c M m a) :
    F1 w w1 (w1.alloc (.cells (List.replicate p (Value.int .u64 0)).toArray 54)) P bA n c M m p 0 a (fun _ => 0) :=
  ⟨⟨A, bs, h.cap.alloc _⟩, UR.new w1 p, hb.alloc hb.size _, hb.size, hs, fun i j _ _ ho => by omega, fun j hj => by omega⟩
theorem F1.yes (h : F1 w w1 wr P bA n c M m p k a x) {A : Nat → Option Addr} {bs : Nat → Nat} {i j : Nat} (hf : FndYes wr w2 (fun b => w.heap.size ≤ b ∧ b < w1.heap.size) P bA n c A bs a k i j) :
    F1 w w1 w2 P bA n c M m p k (fun x y => a (xg i k x) (xg j k y)) x := by
  obtain ⟨h1, h2, h3, h4, h5, h6, h7⟩ := h
  exact ⟨⟨_, _, hf.mx⟩, h2.fm hf.fm (by omega), h3.trans (hf.fm.below fun _ h => h.1), h4, h5.find hf.hi hf.hj, h6.find hf.hi hf.hj, fun y hy => by
    show x y = Nat.gcd (a (xg i k y) (xg j k y)) M
    rw [xg_lo hf.hi.1 hy, xg_lo hf.hj.1 hy]; exact h7 y hy⟩
theorem F1.iso (h : F1 w w1 wr P bA n c M m p k a x) {a' : Nat → Nat → Nat} {A : Nat → Option Addr} {bs : Nat → Nat} (hm : MX w2 (fun b => w.heap.size ≤ b ∧ b < w1.heap.size) P bA n c A bs a') (hs : Sm n c M m a') (hd : Dg n c (k + 1) a') (hk : Ke k a a')
    (hg : Gm (fun b => w.heap.size ≤ b ∧ b < w1.heap.size) wr w2) :
    (∃ A bs, MX w2 (fun b => w.heap.size ≤ b ∧ b < w1.heap.size) P bA n c A bs a') ∧ UR w2 w1.heap.size p x ∧ Below w.heap.size w w2 ∧ w.heap.size ≤ w1.heap.size ∧ Sm n c M m a' ∧ Dg n c (k + 1) a' ∧ ∀ j, j < k → x j = Nat.gcd (a' j j) M := by
  obtain ⟨h1, h2, h3, h4, h5, h6, h7⟩ := h
  exact ⟨⟨_, _, hm⟩, h2.gm hg (by omega), h3.trans (hg.below h3.size fun _ h => h.1), h4, hs, hd, fun j hj => by rw [hk j hj]; exact h7 j hj⟩
end
/-- the diagonal has been cleared up to k, the k-th element is not yet written -/
def F2 (w w1 wr : World) (P : Option Addr) (bA n c M : Nat) (m : Mx) (p k : Nat) (a : Nat → Nat → Nat) (x : Nat → Nat) : Prop :=
  (∃ A bs, MX wr (fun b => w.heap.size ≤ b ∧ b < w1.heap.size) P bA n c A bs a) ∧ UR wr w1.heap.size p x ∧ Below w.heap.size w wr ∧ w.heap.size ≤ w1.heap.size ∧ Sm n c M m a ∧ Dg n c (k + 1) a ∧ ∀ j, j < k → x j = Nat.gcd (a j j) M
section
variable {w w1 wr w2 : World} {P : Option Addr} {bA n c M p k : Nat} {m : Mx} {a : Nat → Nat → Nat} {x : Nat → Nat}
theorem F1.no (h : F1 w w1 wr P bA n c M m p k a x) (hz : ∀ i j, k ≤ i → i < n → k ≤ j → j < c → a i j = 0) : F2 w w1 wr P bA n c M m p k a x := by
  obtain ⟨h1, h2, h3, h4, h5, h6, h7⟩ := h
  exact ⟨h1, h2, h3, h4, h5, h6.no hz, h7⟩
theorem F2.next (h : F2 w w1 wr P bA n c M m p k a x) (hk : k < p) (q : Nat) : F1 w w1 ((wr.drewN q).setCell ⟨w1.heap.size, k, none⟩ (.int .u64 (Nat.gcd (a k k) M : Nat))) P bA n c M m p (k + 1) a (up x k (Nat.gcd (a k k) M)) := by
  obtain ⟨⟨A, bs, h1⟩, h2, h3, h4, h5, h6, h7⟩ := h
  have h3' : Below w.heap.size w (wr.drewN q) := ⟨h3.os, h3.tape, h3.output, h3.size, h3.block⟩
  refine ⟨⟨A, bs, (h1.drewN q).far (by omega) _ _⟩, (h2.drewN q).store hk _, h3'.setCell h4 _, h4, h5, h6, fun j hj => ?_⟩
  unfold up
  split
  · rename_i e; rw [e]
  · exact h7 j (by omega)
end
/-- the list that is written, k elements done -/
def LK (p k : Nat) (y : Nat → Nat) : List Int := (List.range p).map fun j => if j < k then (y j : Int) else 0
theorem LK_len (p k : Nat) (y : Nat → Nat) : (LK p k y).length = p := by simp [LK]
theorem LK_gi {p k j : Nat} {y : Nat → Nat} (hj : j < p) : gi (LK p k y) j = if j < k then (y j : Int) else 0 := by
  rw [gi_lt (by rw [LK_len]; exact hj)]
  simp [LK]
theorem LK_zero (p : Nat) (y : Nat → Nat) : LK p 0 y = List.replicate p 0 := ext_gi (by rw [LK_len]; simp) fun j hj => by
  rw [LK_len] at hj
  rw [LK_gi hj, gi_replicate hj, if_neg (by omega)]
theorem LK_set {p k : Nat} {y : Nat → Nat} (hk : k < p) : (LK p k y).set k (y k : Int) = LK p (k + 1) y := ext_gi (by rw [List.length_set, LK_len, LK_len]) fun j hj => by
  rw [List.length_set, LK_len] at hj
  rw [gi_set (by rw [LK_len]; exact hk), LK_gi hj, LK_gi hj]
  by_cases e : j = k
  · subst e; rw [if_pos rfl, if_pos (by omega)]
  · rw [if_neg e]
    by_cases e2 : j < k
    · rw [if_pos e2, if_pos (by omega)]
    · rw [if_neg e2, if_neg (by omega)]
theorem LK_skip {p k : Nat} {y : Nat → Nat} (h : y k = 0) : LK p k y = LK p (k + 1) y := by
  by_cases hk : k < p
  · rw [← LK_set hk]
    refine ext_gi (by rw [List.length_set]) fun j hj => ?_
    rw [LK_len] at hj
    rw [gi_set (by rw [LK_len]; exact hk)]
    split
    · rename_i e; rw [e, LK_gi hk, if_neg (by omega), h]; rfl
    · rfl
  · unfold LK
    refine List.map_congr_left fun j hj => ?_
    have := List.mem_range.1 hj
    rw [if_pos (by omega), if_pos (by omega)]
theorem LK_full (p : Nat) (y : Nat → Nat) : LK p p y = (List.range p).map fun j => (y j : Int) := by
  unfold LK
  exact List.map_congr_left fun j hj => if_pos (List.mem_range.1 hj)
set_option maxHeartbeats 8000000 in
theorem factors_any (A0 : Option Addr) (cap : Nat) (xss : List (List Int)) (n c r : Nat) (v : Int) (d : Nat → Nat) (w : World) (T : Nat → Prop) (hx : RL w T A0 xss) (hT : ∀ b, T b → b < w.heap.size) (hn : xss.length = n) (hc : ∀ i, i < n → (xss.getD i []).length = c) (hcc : rowL xss 0 = c) (hnl : n ≤ 64) (hcl : c ≤ 64)
    (hb : ∀ i j, i < n → j < c → -1125899906842624 ≤ eI xss i j ∧ eI xss i j ≤ 1125899906842624) (M : Nat) (hM : M = 2 * v.natAbs) (hMl : M ≤ 4611686018427387904) (hE : ElR n c (eI xss) r v) (hd : Eqv n c (eI xss) (dgM d)) (p : Nat) (hp : min n c = p) (hch : Chain d p) :
    Calls Try.prog 31 #[.slice A0 n cap, .int .u64 M] w fun e w' => ∃ V, e = .returned V ∧ OI w' w.heap.size V ((List.range p).map fun j => (d j : Int)) ∧ Below w.heap.size w w' := by
  have hM0 : 0 < M := by have := Int.natAbs_pos.2 hE.nz; omega
  have HRS := Lib.hid (residues_any A0 cap xss n c M w T hx hT hn hc (by omega) (by omega) hb ⟨hM0, hMl⟩)
  have HSM : Hid (Sm n c M (eI xss) (fun i j => rs M (eI xss i j))) := ⟨⟨eI xss, .refl _, fun i j _ _ => rs_mod hM0 _⟩, fun i j _ _ => rs_lt hM0 _⟩
  have HX := Lib.hid (hx.imp hT)
  have HN := Lib.hid hn
  have HCC := Lib.hid hcc
  have HFE : Hid (∀ j, j < p → d j < M ∧ (if Nat.gcd (d j) M = M then 0 else Nat.gcd (d j) M) = d j) := by
    subst hM hp
    exact fun j hj => fac_end hE hd hch hj
  have HD := Lib.hid hd
  have HCH := Lib.hid hch
  clear hx hT hn hc hcc hb hM hE hd hch
  go_enter Try.func31, Try.ntmps31
  go_wp2_with fail
  refine HRS.out.mono ?_
  rintro e w1 ⟨P, bA, A, bs, rfl, hb1, hm1⟩
  have HX1 := Lib.hid (HX.out.below hb1)
  have H0 := Lib.hid (fun p => F1.start (p := p) hm1 hb1 HSM.out)
  have HP := Lib.hid hp
  have hmk := make_u64 p (by omega)
  clear hm1 hb1 HRS HSM hp
  go_upto_region 2 with fail
  go_cut [6] from 19 to 24 (fun v wx => v = .slice (some ⟨w1.heap.size, 0, none⟩) p p ∧ wx = w1.alloc (.cells (List.replicate p (Value.int .u64 0)).toArray 54))
  case first =>
    have hx1 := HX1.out
    by_cases hlt : c < n
    · have hlt' : (c : Int) < (n : Int) := by omega
      obtain rfl : p = c := by have := HP.out; omega
      go_wp2_with fail
      refine (columns_any A0 cap xss n w1 _ hx1 HN.out).mono ?_
      rintro e w2 ⟨rfl, rfl⟩
      rw [HCC.out]
      go_wp2_with fail
      go_meet
      case rel => exact ⟨rfl, rfl⟩
    · have hlt' : ¬ (c : Int) < (n : Int) := by omega
      obtain rfl : p = n := by have := HP.out; omega
      go_wp2_with fail
      refine (columns_any A0 cap xss p w1 _ hx1 HN.out).mono ?_
      rintro e w2 ⟨rfl, rfl⟩
      rw [HCC.out]
      go_wp2_with fail
      go_meet
      case rel => exact ⟨rfl, rfl⟩
  case rest =>
    obtain ⟨rfl, rfl⟩ := hcut
    have H1 := Lib.hid (H0.out p)
    clear hmk H0
    generalize w1.alloc (.cells (List.replicate p (Value.int .u64 0)).toArray 54) = w2 at H1 ⊢
    go_wp2_with fail
    go_loopw [27] (fun k' wr => ∃ (k : Nat) (a : Nat → Nat → Nat) (x : Nat → Nat), k ≤ p ∧ k' = .int .i64 k ∧ Hid (F1 w w1 wr P bA n c M (eI xss) p k a x)) (fun k _ => p - (intOf k).toNat)
    case atStart => exact ⟨0, _, _, Nat.zero_le _, rfl, H1⟩
    case round =>
      clear H1
      obtain ⟨k, a, x, hk, rfl, HF⟩ := hrel
      by_cases hlt : k < p
      · have hkn : k < n := by have := HP.out; omega
        have hkc : k < c := by have := HP.out; omega
        obtain ⟨⟨A, bs, hm⟩, -⟩ := HF.out
        have HMX := Lib.hid hm
        obtain ⟨rfl, -, -⟩ := hm.top (by omega)
        clear hm
        go_wp2_with fail
        refine (find_any k HMX.out (by omega) (by omega) (by omega)).mono ?_
        rintro e w9 (⟨rfl, rfl, hz⟩ | ⟨i, j, rfl, hf⟩)
        · have HF2 := Lib.hid (HF.out.no hz)
          clear HF HMX hz
          generalize wr = wz at HF2 ⊢
          generalize a = az at HF2 ⊢
          obtain ⟨⟨A9, bs9, hm9⟩, hu9, -, -, hsm9, -⟩ := HF2.out
          have c1 := hm9.hd k hkn
          rw [(hm9.ad k hkn (by omega)).1] at c1
          have c2 := hm9.en k k hkn hkc
          have u1 := hu9.en k hlt
          have f1 := hu9.fr k hlt
          have hl9 := hsm9.lt k k hkn hkc
          have HL9 := Lib.hid hl9
          clear hm9 hu9 hsm9 hl9
          obtain ⟨g9, hg9⟩ : ∃ g, az k k = g := ⟨_, rfl⟩
          have HG9 := Lib.hid hg9
          rw [hg9] at c2 HL9
          clear hg9
          go_wp2_with fail
          refine (gcd_any g9 M (by have := HL9.out; omega) (by omega) wz).mono ?_
          rintro e w10 ⟨rfl, nq, rfl⟩
          have HF3 := Lib.hid (HF2.out.next hlt nq)
          rw [HG9.out] at HF3
          clear HF2 HG9 HL9
          go_wp2_with fail
          go_roundw
          case rel => exact ⟨k + 1, _, _, by omega, by go_num, HF3⟩
          case measure => simp [intOf]; omega
        · have HF9 := Lib.hid (HF.out.yes hf)
          have hnz : a (xg i k k) (xg j k k) ≠ 0 := by rw [xg_k, xg_k]; exact hf.nz
          have HI : Hid (Iso n c M k (eI xss) (fun x y => a (xg i k x) (xg j k y))) := ⟨HF9.out.2.2.2.2.1, HF9.out.2.2.2.2.2.1, hnz⟩
          have HM9 := Lib.hid hf.mx
          have HBW : Hid (w1.heap.size < w9.heap.size) := HF9.out.2.1.lt
          clear hf HF HMX hnz
          go_wp2_with fail
          refine (isolate_any k M HM9.out (fun b hb => Nat.lt_trans hb.2 HBW.out) hkn hkc hnl hcl HI.out hMl).mono ?_
          rintro e wz ⟨rfl, ⟨A', bs', az, hm, hs, hdd, hke⟩, hg⟩
          have HF2 : Hid (F2 w w1 wz (some ⟨bA, 0, none⟩) bA n c M (eI xss) p k az x) := HF9.out.iso hm hs hdd hke hg
          clear hm hs hdd hke hg HF9 HI HM9 HBW
          obtain ⟨⟨A9, bs9, hm9⟩, hu9, -, -, hsm9, -⟩ := HF2.out
          have c1 := hm9.hd k hkn
          rw [(hm9.ad k hkn (by omega)).1] at c1
          have c2 := hm9.en k k hkn hkc
          have u1 := hu9.en k hlt
          have f1 := hu9.fr k hlt
          have hl9 := hsm9.lt k k hkn hkc
          have HL9 := Lib.hid hl9
          clear hm9 hu9 hsm9 hl9
          obtain ⟨g9, hg9⟩ : ∃ g, az k k = g := ⟨_, rfl⟩
          have HG9 := Lib.hid hg9
          rw [hg9] at c2 HL9
          clear hg9
          go_wp2_with fail
          refine (gcd_any g9 M (by have := HL9.out; omega) (by omega) wz).mono ?_
          rintro e w10 ⟨rfl, nq, rfl⟩
          have HF3 := Lib.hid (HF2.out.next hlt nq)
          rw [HG9.out] at HF3
          clear HF2 HG9 HL9
          go_wp2_with fail
          go_roundw
          case rel => exact ⟨k + 1, _, _, by omega, by go_num, HF3⟩
          case measure => simp [intOf]; omega
      · obtain rfl : k = p := by omega
        obtain ⟨-, hu, hbl, hle, hsm, hdg, hdi⟩ := HF.out
        have hk64 : k ≤ 64 := by have := HP.out; omega
        have HM0 := Lib.hid hM0
        have HU := Lib.hid hu
        have HB := Lib.hid hbl
        have HPH : Hid (FPh k M (fun j => Nat.gcd (d j) M) 0 1 x) := by
          refine FPh.start hM0 (fun j hj => by rw [hdi j hj]; exact Nat.gcd_dvd_right ..) fun q hq hqM => ?_
          have := sm_prods hsm (by rw [HP.out]; exact hdg) HD.out hq hqM
          rw [HP.out] at this
          rw [← this]
          exact pN_congr fun j hj => by rw [hdi j hj]
        clear hu hbl hsm hdg hdi HF HN HCC HX HX1
        have HB9 := Lib.hid hle
        clear hle
        generalize w1.heap.size = b9 at HU HB9 ⊢
        go_wp2_with fail
        go_loopw [56] (fun i' wr => ∃ (i : Nat) (x : Nat → Nat), i ≤ k ∧ i' = .int .i64 i ∧ Hid (UR wr b9 k x) ∧ Hid (Below w.heap.size w wr) ∧ Hid (FPh k M (fun j => Nat.gcd (d j) M) i (i + 1) x)) (fun i _ => k - (intOf i).toNat)
        case atStart => exact ⟨0, x, Nat.zero_le _, rfl, HU, HB, HPH⟩
        case round =>
          clear HU HB HPH
          obtain ⟨i, x, hi, rfl, HU, HB, HPH⟩ := hrel
          by_cases hlt : i < k
          · go_wp2_with fail
            go_loopw [11] (fun j' wr => ∃ (j : Nat) (x : Nat → Nat), i < j ∧ j ≤ k ∧ j' = .int .i64 j ∧ Hid (UR wr b9 k x) ∧ Hid (Below w.heap.size w wr) ∧ Hid (FPh k M (fun j => Nat.gcd (d j) M) i j x)) (fun j _ => k - (intOf j).toNat)
            case atStart => exact ⟨i + 1, x, by omega, by omega, by go_num, HU, HB, HPH⟩
            case round =>
              clear HU HB HPH
              obtain ⟨j, x, hij, hjk, rfl, HU, HB, HPH⟩ := hrel
              by_cases hltj : j < k
              · have u1 := HU.out.en i hlt
                have u2 := HU.out.en j hltj
                have f1 := HU.out.fr i hlt
                have f2 := HU.out.fr j hltj
                have HNX := Lib.hid (HPH.out.step HM0.out hij hltj)
                have hxi := Nat.pos_of_dvd_of_pos (HPH.out.dv i hlt) HM0.out
                have hxil := Nat.le_of_dvd HM0.out (HPH.out.dv i hlt)
                have hxjl := Nat.le_of_dvd HM0.out (HPH.out.dv j hltj)
                have hll := Nat.le_of_dvd HM0.out (HNX.out.dv j hltj)
                rw [if_neg (show ¬ j = i by omega), if_pos rfl] at hll
                obtain ⟨p1, hp1⟩ : ∃ p1, x i = p1 := ⟨_, rfl⟩
                obtain ⟨q1, hq1⟩ : ∃ q1, x j = q1 := ⟨_, rfl⟩
                rw [hp1, hq1] at hll HNX
                rw [hp1] at hxi hxil u1
                rw [hq1] at hxjl u2
                have hg0 := Nat.gcd_pos_of_pos_left q1 hxi
                have HGC : Hid (∀ w, Calls Try.prog 34 #[.int .u64 p1, .int .u64 q1] w fun e w' => e = .returned (.int .u64 (Nat.gcd p1 q1 : Nat)) ∧ ∃ n, w' = w.drewN n) := gcd_any p1 q1 (by omega) (by omega)
                generalize Nat.gcd p1 q1 = g at hll HNX hg0 HGC
                obtain ⟨s1, hs1⟩ : ∃ s1, p1 / g = s1 := ⟨_, rfl⟩
                obtain ⟨l1, hl1⟩ : ∃ l1, s1 * q1 = l1 := ⟨_, rfl⟩
                have hsl : s1 ≤ p1 := by rw [← hs1]; exact Nat.div_le_self _ _
                rw [hs1, hl1] at hll HNX
                have x0 : ¬ (g : Int) = 0 := by omega
                have x1 : (p1 : Int).tdiv (g : Int) = (s1 : Int) := by rw [← hs1]; exact Int.ofNat_tdiv _ _
                have x1' : (p1 : Int) / (g : Int) = (s1 : Int) := by rw [← hs1]; rfl
                have x2 : IntKind.u64.wrap (s1 : Int) = (s1 : Int) := wrapN _ (by omega)
                have x3 : IntKind.u64.wrap ((s1 : Int) * (q1 : Int)) = (l1 : Int) := by rw [← Int.natCast_mul, hl1]; exact wrapN _ (by omega)
                have hne : i ≠ j := by omega
                have HNE := Lib.hid hne
                have c6 : ∀ (v : Value) (m : Nat), ((wr.drewN m).setCell ⟨b9, i, none⟩ v).cell? ⟨b9, j, none⟩ = some (.int .u64 (q1 : Nat)) := fun v m => (set_other (by intro e; injection e with _ e; exact hne e)).trans u2
                have HU2 : Hid (∀ m, UR (((wr.drewN m).setCell ⟨b9, i, none⟩ (.int .u64 (g : Nat))).setCell ⟨b9, j, none⟩ (.int .u64 (l1 : Nat))) b9 k (fun z => if z = i then g else if z = j then l1 else x z)) := fun m => by
                  refine (((HU.out.drewN m).store hlt g).store hltj l1).congr fun z _ => ?_
                  unfold up
                  by_cases e1 : z = j
                  · subst e1; rw [if_pos rfl, if_neg (Ne.symm hne), if_pos rfl]
                  · rw [if_neg e1]
                    split
                    · rfl
                    · rfl
                have HB2 : Hid (∀ m, Below w.heap.size w (((wr.drewN m).setCell ⟨b9, i, none⟩ (.int .u64 (g : Nat))).setCell ⟨b9, j, none⟩ (.int .u64 (l1 : Nat)))) := fun m => by
                  have hB := HB.out
                  exact ((⟨hB.os, hB.tape, hB.output, hB.size, hB.block⟩ : Below w.heap.size w (wr.drewN m)).setCell HB9.out _).setCell HB9.out _
                clear HU HB HPH hxi hxil hxjl hll hp1 hq1 hs1 hl1 hsl hg0 hne
                go_wp2_with fail
                go_quiet (exact Calls.quiet_of (HGC.out _))
                go_wp2_with fail
                go_region
                all_goals
                  go_wp2_with fail
                  go_roundw
                  case rel => exact ⟨j + 1, _, by omega, by omega, by go_num, (HU2.out 0).heap rfl, (by exact HB2.out _), HNX⟩
                  case measure => simp [intOf]; omega
              · obtain rfl : j = k := by omega
                have HNX := Lib.hid HPH.out.next
                go_wp2_with fail
                go_roundw
                case rel => exact ⟨i + 1, x, by omega, by go_num, HU, HB, HNX⟩
                case measure => simp [intOf]; omega
          · obtain rfl : i = k := by omega
            have HY : Hid (∀ j, j < i → x j ≤ M ∧ (if x j = M then 0 else x j) = d j) := fun j hj => by
              have e := chain_uniq HM0.out HPH.out.chain (gcd_chain (M := M) HCH.out) HPH.out.dv (fun j _ => Nat.gcd_dvd_right ..) HPH.out.pr j hj
              rw [e]
              exact ⟨Nat.le_of_dvd HM0.out (Nat.gcd_dvd_right ..), (HFE.out j hj).2⟩
            have hmk := make_ints 28 Try.underlying28 i (by omega)
            have HOI : Hid (∀ w3 : World, w.heap.size ≤ w3.heap.size → OI (w3.alloc (.cells (List.replicate i (Value.int .i64 0)).toArray 3)) w.heap.size (.slice (some ⟨w3.heap.size, 0, none⟩) (LK i 0 d).length i) (LK i 0 d)) := fun w3 h3 => by
              rw [LK_len, LK_zero]
              exact OI.new w3 w.heap.size i h3 (by unfold maxLen; omega)
            clear HPH HFE HCH
            go_wp2_with fail
            clear hmk
            have HO := Lib.hid (HOI.out wr HB.out.size)
            have HU1 := Lib.hid (HU.out.alloc (.cells (List.replicate i (Value.int .i64 0)).toArray 3))
            have HB1 := Lib.hid (HB.out.alloc HB.out.size (.cells (List.replicate i (Value.int .i64 0)).toArray 3))
            have HNB : Hid (b9 < wr.heap.size) := HU.out.lt
            have HG4 : Hid (w.heap.size ≤ wr.heap.size) := HB.out.size
            simp only [List.toArray_replicate] at HO HU1 HB1
            clear HOI HU HB
            generalize wr.heap.size = b4 at HO HNB HG4 ⊢
            go_loopw [100] (fun k' wr => ∃ q : Nat, q ≤ i ∧ k' = .int .i64 q ∧ Hid (UR wr b9 i x) ∧ Hid (OI wr w.heap.size (.slice (some ⟨b4, 0, none⟩) (LK i q d).length i) (LK i q d)) ∧ Hid (Below w.heap.size w wr)) (fun q _ => i - (intOf q).toNat)
            case atStart => exact ⟨0, Nat.zero_le _, rfl, HU1, HO, HB1⟩
            case round =>
              clear HU1 HO HB1
              obtain ⟨q, hq, rfl, HU, HO, HB⟩ := hrel
              by_cases hlt : q < i
              · have u1 := HU.out.en q hlt
                have hy := HY.out q hlt
                obtain ⟨z, hz⟩ : ∃ z, x q = z := ⟨_, rfl⟩
                rw [hz] at u1 hy
                clear hz
                by_cases hzM : z = M
                · subst hzM
                  have HO' : Hid (OI wr w.heap.size (.slice (some ⟨b4, 0, none⟩) (LK i (q + 1) d).length i) (LK i (q + 1) d)) := by
                    rw [if_pos rfl] at hy
                    rw [← LK_skip hy.2.symm]; exact HO.out
                  clear hy HO
                  go_wp2_with fail
                  go_roundw
                  case rel => exact ⟨q + 1, by omega, by go_num, HU, HO', HB⟩
                  case measure => simp [intOf]; omega
                · rw [if_neg hzM] at hy
                  have hzM' : ((z : Int) != (M : Int)) = true := by rw [bne_iff_ne]; omega
                  obtain ⟨-, -, -, -, f1⟩ := HO.out.ints_at (by rw [LK_len]; omega)
                  have c1 := f1.1 q (by rw [LK_len]; exact hlt)
                  have f1 := f1.2 q
                  have x1 : wrap64 (z : Int) = (z : Int) := IntWalk.wrap64_in (z : Int) (by omega)
                  have HO' := Lib.hid (HO.out.stored (k := q) (z : Int))
                  rw [show (LK i q d).set q (z : Int) = LK i (q + 1) d by rw [hy.2]; exact LK_set hlt] at HO'
                  have HU' := Lib.hid (HU.out.other (g := b4) (by have := HNB.out; omega) q (.int .i64 (z : Int)))
                  have HB' : Hid (Below w.heap.size w (wr.setCell ⟨b4, q, none⟩ (.int .i64 (z : Int)))) := HB.out.setCell HG4.out _
                  clear hy HO HU HB
                  go_wp2_with fail
                  go_roundw
                  case rel => exact ⟨q + 1, by omega, by go_num, HU', HO', HB'⟩
                  case measure => simp [intOf]; omega
              · obtain rfl : q = i := by omega
                have HO' := HO.out
                rw [LK_full] at HO'
                have HO2 := Lib.hid HO'
                clear HO' HO
                go_wp2_with fail
                go_ret
                refine ⟨_, rfl, ?_, HB.out⟩
                have := HO2.out
                simpa using this
end Go.Proofs.Ytjlokbolmindgaa

