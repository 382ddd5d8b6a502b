/-
  The connected sum of two diagrams: faces, circles and strands of the matching that is got by crossing two edges of a disjoint union. No program here.
-/
import Derived.Test.YtaghemilihaiaaaSeifG
namespace Go.Proofs.Ytaghemilihaiaaa

/-! ### cycles of a permutation of two blocks -/
theorem cnt_add (P : Nat → Bool) (a : Nat) : ∀ b, cnt P (a + b) = cnt P a + cnt (fun k => P (a + k)) b
  | 0 => rfl
  | b + 1 => by rw [← Nat.add_assoc, cnt_succ, cnt_succ, cnt_add P a b]; omega
section
variable {f fA fB : Nat → Nat} {a b : Nat} (hP : PermB f (a + b)) (hA : PermB fA a) (hB : PermB fB b) (h1 : ∀ x, x < a → f x = fA x) (h2 : ∀ x, x < b → f (a + x) = a + fB x)
include hA h1 in
theorem blk_itA {x : Nat} (hx : x < a) : ∀ k, it f k x = it fA k x
  | 0 => rfl
  | k + 1 => by show f (it f k x) = fA (it fA k x); rw [blk_itA hx k]; exact h1 _ (hA.it_lt k hx)
include hB h2 in
theorem blk_itB {x : Nat} (hx : x < b) : ∀ k, it f k (a + x) = a + it fB k x
  | 0 => rfl
  | k + 1 => by show f (it f k (a + x)) = a + fB (it fB k x); rw [blk_itB hx k]; exact h2 _ (hB.it_lt k hx)
include hP hA h1 in
theorem blk_lstA {x : Nat} (hx : x < a) : lstB f (a + b) x = lstB fA a x := by
  rw [Bool.eq_iff_iff, lstB_iff, lstB_iff]
  constructor
  · intro h g hg
    obtain ⟨k, rfl⟩ := (mem_cyc hA hx).1 hg
    exact h _ ((mem_cyc hP (by omega)).2 ⟨k, blk_itA hA h1 hx k⟩)
  · intro h g hg
    obtain ⟨k, rfl⟩ := (mem_cyc hP (by omega)).1 hg
    rw [blk_itA hA h1 hx k]
    exact h _ ((mem_cyc hA hx).2 ⟨k, rfl⟩)
include hP hB h2 in
theorem blk_lstB {x : Nat} (hx : x < b) : lstB f (a + b) (a + x) = lstB fB b x := by
  rw [Bool.eq_iff_iff, lstB_iff, lstB_iff]
  constructor
  · intro h g hg
    obtain ⟨k, rfl⟩ := (mem_cyc hB hx).1 hg
    have := h (a + it fB k x) ((mem_cyc hP (by omega)).2 ⟨k, blk_itB hB h2 hx k⟩)
    omega
  · intro h g hg
    obtain ⟨k, rfl⟩ := (mem_cyc hP (by omega)).1 hg
    rw [blk_itB hB h2 hx k]
    have := h _ ((mem_cyc hB hx).2 ⟨k, rfl⟩)
    omega
include hP hA h1 in
theorem blk_rcA {x y : Nat} (hx : x < a) (h : rc f (a + b) x y = true) : y < a ∧ rc fA a x y = true := by
  obtain ⟨k, rfl⟩ := (rc_iff hP (by omega)).1 h
  rw [blk_itA hA h1 hx k]
  exact ⟨hA.it_lt k hx, (rc_iff hA hx).2 ⟨k, rfl⟩⟩
include hP hA hB h1 h2 in
theorem blk_cnt (P : Nat → Bool) : cnt (fun x => P x && lstB f (a + b) x) (a + b) = cnt (fun x => P x && lstB fA a x) a + cnt (fun x => P (a + x) && lstB fB b x) b := by
  rw [cnt_add]
  refine _root_.congr (_root_.congrArg _ (cnt_congr fun x hx => ?_)) (cnt_congr fun x hx => ?_)
  · rw [blk_lstA hP hA h1 hx]
  · show (P (a + x) && lstB f (a + b) (a + x)) = _
    rw [blk_lstB hP hB h2 hx]
end
theorem ncls_all {f : Nat → Nat} {N : Nat} (hP : PermB f N) : ncls (rc f N) N = cnt (fun x => true && lstB f N x) N := by
  rw [ncls_rc hP]
  exact cnt_congr fun x _ => by simp

/-! ### the disjoint union -/
def unM (ma mb : List Int) : List Int := ma ++ mb.map (· + (ma.length : Int))
theorem unM_len (ma mb : List Int) : (unM ma mb).length = ma.length + mb.length := by simp [unM]
theorem gi_unA {ma mb : List Int} {x : Nat} (hx : x < ma.length) : gi (unM ma mb) x = gi ma x := by
  unfold gi unM
  rw [List.getD_eq_getElem?_getD, List.getD_eq_getElem?_getD, List.getElem?_append_left hx]
theorem gi_unB {ma mb : List Int} {x : Nat} (hx : x < mb.length) : gi (unM ma mb) (ma.length + x) = gi mb x + ma.length := by
  unfold gi unM
  rw [List.getD_eq_getElem?_getD, List.getD_eq_getElem?_getD, List.getElem?_append_right (Nat.le_add_right _ _), Nat.add_sub_cancel_left, List.getElem?_map, List.getElem?_eq_getElem hx]
  rfl
theorem gi_apA {xs ys : List Int} {x : Nat} (hx : x < xs.length) : gi (xs ++ ys) x = gi xs x := by
  unfold gi
  rw [List.getD_eq_getElem?_getD, List.getD_eq_getElem?_getD, List.getElem?_append_left hx]
theorem gi_apB {xs ys : List Int} (x : Nat) : gi (xs ++ ys) (xs.length + x) = gi ys x := by
  unfold gi
  rw [List.getD_eq_getElem?_getD, List.getD_eq_getElem?_getD, List.getElem?_append_right (Nat.le_add_right _ _), Nat.add_sub_cancel_left]
section
variable {sa ma sb mb : List Int} {La Lb : Int} (ha : IsD sa ma La) (hb : IsD sb mb Lb)
theorem gn_unA {x : Nat} (hx : x < ma.length) : gn (unM ma mb) x = gn ma x := by unfold gn; rw [gi_unA hx]
include hb in
theorem gn_unB {x : Nat} (hx : x < mb.length) : gn (unM ma mb) (ma.length + x) = ma.length + gn mb x := by
  have := (hb.2.2.2.2.2.1.gn hx).1
  unfold gn at this ⊢
  rw [gi_unB hx, this]
  omega
include ha in
theorem outB_apA {x : Nat} (hx : x < ma.length) : outB (sa ++ sb) x = outB sa x := by
  have hn := ha.2.1
  unfold outB
  rw [gi_apA (show x / 4 < sa.length by omega)]
include ha in
theorem outB_apB (x : Nat) : outB (sa ++ sb) (ma.length + x) = outB sb x := by
  have hn := ha.2.1
  unfold outB
  rw [show (ma.length + x) / 4 = sa.length + x / 4 by omega, gi_apB, show (ma.length + x) % 4 = x % 4 by omega]
include ha hb in
theorem un_inv : InvM (unM ma mb) := by
  have hI := ha.2.2.2.2.2.1
  have hJ := hb.2.2.2.2.2.1
  intro h hh
  rw [unM_len] at hh ⊢
  by_cases hlt : h < ma.length
  · obtain ⟨e1, e2, e3, e4⟩ := hI.gn hlt
    obtain ⟨f1, f2, f3, f4⟩ := hI h hlt
    rw [gi_unA hlt, gn_unA hlt, gi_unA e2]
    exact ⟨f1, by omega, f3, f4⟩
  · obtain ⟨k, rfl⟩ : ∃ k, h = ma.length + k := ⟨h - ma.length, by omega⟩
    have hk : k < mb.length := by omega
    obtain ⟨e1, e2, e3, e4⟩ := hJ.gn hk
    obtain ⟨f1, f2, f3, f4⟩ := hJ k hk
    rw [gi_unB hk, gn_unB hb hk, gi_unB e2]
    refine ⟨by omega, by omega, ?_, ?_⟩
    · push_cast; omega
    · rw [f4]; push_cast; omega
include ha hb in
theorem un_out : OutM (sa ++ sb) (unM ma mb) := by
  intro h hh
  rw [unM_len] at hh
  by_cases hlt : h < ma.length
  · rw [gn_unA hlt, outB_apA ha hlt, outB_apA ha (ha.2.2.2.2.2.1.gn hlt).2.1]
    exact ha.2.2.2.2.2.2.1 h hlt
  · obtain ⟨k, rfl⟩ : ∃ k, h = ma.length + k := ⟨h - ma.length, by omega⟩
    rw [gn_unB hb (by omega), outB_apB ha, outB_apB ha]
    exact hb.2.2.2.2.2.2.1 k (by omega)
include ha hb in
theorem ap_sg : SgM (sa ++ sb) := by
  intro c hc
  rw [List.length_append] at hc
  by_cases hlt : c < sa.length
  · rw [gi_apA hlt]; exact ha.2.2.2.2.1 c hlt
  · obtain ⟨k, rfl⟩ : ∃ k, c = sa.length + k := ⟨c - sa.length, by omega⟩
    rw [gi_apB]; exact hb.2.2.2.2.1 k (by omega)
end

/-! ### two edges crossed -/
def crM (u : List Int) (x y : Nat) : List Int := (((u.set x (gi u y)).set (gn u y) (x : Int)).set y (gi u x)).set (gn u x) (y : Int)
theorem crM_len (u : List Int) (x y : Nat) : (crM u x y).length = u.length := by simp [crM]
section
variable {u : List Int} (hI : InvM u) {x y : Nat} (hx : x < u.length) (hy : y < u.length) (hne : x ≠ y) (hxy : gn u x ≠ y)
include hI hx hy hne hxy
theorem cr_ne : gn u x ≠ gn u y ∧ gn u x ≠ x ∧ gn u y ≠ y ∧ gn u y ≠ x := by
  obtain ⟨-, -, x3, x4⟩ := hI.gn hx
  obtain ⟨-, -, y3, y4⟩ := hI.gn hy
  refine ⟨fun e => hne (by rw [← x4, e, y4]), x3, y3, fun e => hxy (by rw [← e, y4])⟩
omit hne hxy in
theorem cr_val {z : Nat} (_hz : z < u.length) : gi (crM u x y) z = if z = gn u x then (y : Int) else if z = y then gi u x else if z = gn u y then (x : Int) else if z = x then gi u y else gi u z := by
  have h1 := (hI.gn hx).2.1
  have h2 := (hI.gn hy).2.1
  unfold crM
  rw [gi_set (by simp; exact h1), gi_set (by simp; exact hy), gi_set (by simp; exact h2), gi_set hx]
theorem cr_gn {z : Nat} (hz : z < u.length) : gn (crM u x y) z = gn u (sw x y (sw (gn u x) (gn u y) z)) := by
  obtain ⟨n1, n2, n3, n4⟩ := cr_ne hI hx hy hne hxy
  obtain ⟨x1, x2, x3, x4⟩ := hI.gn hx
  obtain ⟨y1, y2, y3, y4⟩ := hI.gn hy
  have e : gn (crM u x y) z = (gi (crM u x y) z).toNat := rfl
  rw [e, cr_val hI hx hy hz]
  by_cases e1 : z = gn u x
  · rw [if_pos e1, e1, sw_l, sw_o n4 n3, y4]; rfl
  · rw [if_neg e1]
    by_cases e2 : z = y
    · rw [if_pos e2, e2, sw_o (Ne.symm hxy) (Ne.symm n3), sw_r]; rfl
    · rw [if_neg e2]
      by_cases e3 : z = gn u y
      · rw [if_pos e3, e3, sw_r, sw_o n2 hxy, x4]; rfl
      · rw [if_neg e3]
        by_cases e4 : z = x
        · rw [if_pos e4, e4, sw_o (Ne.symm n2) (Ne.symm n4), sw_l]; rfl
        · rw [if_neg e4, sw_o e1 e3, sw_o e4 e2]; rfl
theorem cr_inv : InvM (crM u x y) := by
  obtain ⟨n1, n2, n3, n4⟩ := cr_ne hI hx hy hne hxy
  obtain ⟨x1, x2, x3, x4⟩ := hI.gn hx
  obtain ⟨y1, y2, y3, y4⟩ := hI.gn hy
  have v := fun z (hz : z < u.length) => cr_val hI hx hy hz
  have vp : gi (crM u x y) (gn u x) = (y : Int) := by rw [v _ x2, if_pos rfl]
  have vy : gi (crM u x y) y = (gn u x : Int) := by rw [v _ hy, if_neg (Ne.symm hxy), if_pos rfl, x1]
  have vq : gi (crM u x y) (gn u y) = (x : Int) := by rw [v _ y2, if_neg (Ne.symm n1), if_neg n3, if_pos rfl]
  have vx : gi (crM u x y) x = (gn u y : Int) := by rw [v _ hx, if_neg (Ne.symm n2), if_neg hne, if_neg (Ne.symm n4), if_pos rfl, y1]
  intro z hz
  rw [crM_len] at hz ⊢
  have key : ∀ a b : Nat, a < u.length → b < u.length → a ≠ b → gi (crM u x y) a = (b : Int) → gi (crM u x y) b = (a : Int) → 0 ≤ gi (crM u x y) a ∧ gi (crM u x y) a < u.length ∧ gi (crM u x y) a ≠ a ∧ gi (crM u x y) (gn (crM u x y) a) = a := fun a b ha hb hab e1 e2 => by
    have e3 : gn (crM u x y) a = b := by show (gi (crM u x y) a).toNat = b; rw [e1]; rfl
    rw [e3, e1]
    exact ⟨by omega, by omega, by omega, e2⟩
  by_cases e1 : z = gn u x
  · subst e1; exact key _ _ x2 hy hxy vp vy
  · by_cases e2 : z = y
    · subst e2; exact key _ _ hy x2 (Ne.symm hxy) vy vp
    · by_cases e3 : z = gn u y
      · subst e3; exact key _ _ y2 hx n4 vq vx
      · by_cases e4 : z = x
        · subst e4; exact key _ _ hx y2 (Ne.symm n4) vx vq
        · obtain ⟨z1, z2, z3, z4⟩ := hI.gn hz
          have f1 : gn u z ≠ gn u x := fun e => e4 (by rw [← z4, e, x4])
          have f2 : gn u z ≠ y := fun e => e3 (by rw [← e, z4])
          have f3 : gn u z ≠ gn u y := fun e => e2 (by rw [← z4, e, y4])
          have f4 : gn u z ≠ x := fun e => e1 (by rw [← e, z4])
          refine key z (gn u z) hz z2 (Ne.symm z3) ?_ ?_
          · rw [v z hz, if_neg e1, if_neg e2, if_neg e3, if_neg e4, z1]
          · rw [v _ z2, if_neg f1, if_neg f2, if_neg f3, if_neg f4, (hI.gn z2).1, z4]
theorem cr_out {sg : List Int} (ho : OutM sg u) (ox : outB sg x = true) (oy : outB sg y = true) : OutM sg (crM u x y) := by
  intro z hz
  rw [crM_len] at hz
  obtain ⟨n1, n2, n3, n4⟩ := cr_ne hI hx hy hne hxy
  obtain ⟨x1, x2, x3, x4⟩ := hI.gn hx
  obtain ⟨y1, y2, y3, y4⟩ := hI.gn hy
  have px := ho x hx
  have py := ho y hy
  rw [cr_gn hI hx hy hne hxy hz]
  by_cases e1 : z = gn u x
  · rw [e1, sw_l, sw_o n4 n3, y4, oy, ← ox]; exact Ne.symm px
  · by_cases e2 : z = y
    · rw [e2, sw_o (Ne.symm hxy) (Ne.symm n3), sw_r, oy, ← ox]; exact px
    · by_cases e3 : z = gn u y
      · rw [e3, sw_r, sw_o n2 hxy, x4, ox, ← oy]; exact Ne.symm py
      · by_cases e4 : z = x
        · rw [e4, sw_o (Ne.symm n2) (Ne.symm n4), sw_l, ox, ← oy]; exact py
        · rw [sw_o e1 e3, sw_o e4 e2]; exact ho z hz
end
/-! ### permutations that agree -/
theorem PermB.same {f g : Nat → Nat} {N : Nat} (hP : PermB f N) (h : ∀ z, z < N → g z = f z) : PermB g N :=
  ⟨fun z hz => by rw [h z hz]; exact hP.lt z hz, fun a b ha hb e => hP.inj a b ha hb (by rw [← h a ha, ← h b hb, e])⟩
theorem it_same {f g : Nat → Nat} {N : Nat} (hP : PermB f N) (h : ∀ z, z < N → g z = f z) {x : Nat} (hx : x < N) : ∀ k, it g k x = it f k x
  | 0 => rfl
  | k + 1 => by show g (it g k x) = f (it f k x); rw [it_same hP h hx k]; exact h _ (hP.it_lt k hx)
theorem lst_same {f g : Nat → Nat} {N : Nat} (hP : PermB f N) (h : ∀ z, z < N → g z = f z) {x : Nat} (hx : x < N) : lstB g N x = lstB f N x :=
  lstB_agree (hP.same h) hP hx (it_same hP h hx)
/-- .. on a part that they keep -/
theorem lst_part {f g : Nat → Nat} {N : Nat} (hP : PermB f N) (hQ : PermB g N) {P : Nat → Bool} (hk : ∀ z, z < N → P (f z) = P z) (h : ∀ z, z < N → P z = true → g z = f z) {x : Nat} (hx : x < N) (px : P x = true) : lstB g N x = lstB f N x := by
  refine lstB_agree hQ hP hx fun k => ?_
  have : it g k x = it f k x ∧ P (it f k x) = true := by
    induction k with
    | zero => exact ⟨rfl, px⟩
    | succ k ih =>
      obtain ⟨e, hp⟩ := ih
      have hlt := hP.it_lt k hx
      refine ⟨?_, ?_⟩
      · show g (it g k x) = f (it f k x)
        rw [e]; exact h _ hlt hp
      · show P (f (it f k x)) = true
        rw [hk _ hlt]; exact hp
  exact this.1
theorem blk_perm {f fA fB : Nat → Nat} {a b : Nat} (hA : PermB fA a) (hB : PermB fB b) (h1 : ∀ x, x < a → f x = fA x) (h2 : ∀ x, x < b → f (a + x) = a + fB x) : PermB f (a + b) := by
  have side : ∀ z, z < a + b → (z < a ∧ f z = fA z ∧ fA z < a) ∨ (∃ k, k < b ∧ z = a + k ∧ f z = a + fB k ∧ fB k < b) := fun z hz => by
    by_cases hlt : z < a
    · exact .inl ⟨hlt, h1 z hlt, hA.lt z hlt⟩
    · refine .inr ⟨z - a, by omega, by omega, ?_, hB.lt _ (by omega)⟩
      have := h2 (z - a) (by omega)
      rwa [show a + (z - a) = z by omega] at this
  refine ⟨fun z hz => ?_, fun c d hc hd e => ?_⟩
  · rcases side z hz with ⟨-, e, h⟩ | ⟨k, -, -, e, h⟩ <;> rw [e] <;> omega
  · rcases side c hc with ⟨c1, c2, c3⟩ | ⟨k, c1, c2, c3, c4⟩ <;> rcases side d hd with ⟨d1, d2, d3⟩ | ⟨l, d1, d2, d3, d4⟩
    · exact hA.inj _ _ c1 d1 (by rw [← c2, ← d2, e])
    · omega
    · omega
    · have := hB.inj k l c1 d1 (by omega)
      omega

/-! ### one component -/
theorem one_lab {mt : List Int} {n : Nat} (hI : InvM mt) (hn : mt.length = 4 * n) (hg : (graphL mt n).length = 1) : 0 < n ∧ ∀ c d, c < n → d < n → Cn mt c d := by
  have e := graphL_idx hI hn
  have hq : idxAt mt n n = 1 := by rw [← hg, ← e]; simp
  refine ⟨?_, fun c d hc hd => ?_⟩
  · have := idxN_le (labN mt n) n
    unfold idxAt at hq
    omega
  · have h1 := pn_lt hI hn hc
    have h2 := pn_lt hI hn hd
    rw [hg] at h1 h2
    unfold pn idxAt labAt at h1 h2
    exact cn_of_lab_eq hI hn hc hd (idxN_inj _ (lab_lab hI hn hc) (lab_lab hI hn hd) (by omega))
theorem lab_one {mt : List Int} {n : Nat} (hI : InvM mt) (hn : mt.length = 4 * n) (h0 : 0 < n) (h : ∀ c, c < n → Cn mt 0 c) : (graphL mt n).length = 1 ∧ idxAt mt n n = 1 ∧ ∀ c, c < n → idxAt mt n (labAt mt n c) = 0 := by
  have hl : ∀ c, c < n → gN (labN mt n) c = 0 := fun c hc => by
    have := lab_eq_of_cn hI hn h0 (h c hc)
    have h2 := lab_le hI hn h0
    omega
  have h1 : ∀ r, r ≤ n → 0 < r → idxN (labN mt n) r = 1 := fun r hr h0 => by
    induction r with
    | zero => omega
    | succ r ih =>
      rw [idxN_succ]
      by_cases e : r = 0
      · subst e
        rw [if_pos (hl 0 (by omega))]
        rfl
      · rw [ih (by omega) (by omega), if_neg (by rw [hl r (by omega)]; exact Ne.symm e)]
  have hq : idxAt mt n n = 1 := h1 n (Nat.le_refl _) h0
  refine ⟨?_, hq, fun c hc => ?_⟩
  · have e := graphL_idx hI hn
    have : (graphL mt n).length = idxAt mt n n := by rw [← e]; simp
    rw [this, hq]
  · show idxN (labN mt n) (gN (labN mt n) c) = 0
    rw [hl c hc]
    rfl
/-- a way round along the strand, without its first edge -/
theorem link {u v : List Int} {N : Nat} (hV : v.length = N) (hS : PermB (nxS u) N) {x : Nat} (hx : x < N)
    (same : ∀ k, 0 < k → k < per (nxS u) N x → gn v (it (nxS u) k x) = gn u (it (nxS u) k x)) : Cn v (gn u x / 4) (x / 4) := by
  obtain ⟨p0, -, p2, -⟩ := per_spec hS hx
  have key : ∀ k, k < per (nxS u) N x → Cn v (gn u x / 4) (it (nxS u) (k + 1) x / 4) := fun k hk => by
    induction k with
    | zero =>
      have : it (nxS u) 1 x / 4 = gn u x / 4 := turnN_div _ _
      rw [this]
      exact .refl
    | succ k ih =>
      have h1 := ih (by omega)
      have h2 : it (nxS u) (k + 1 + 1) x / 4 = gn u (it (nxS u) (k + 1) x) / 4 := turnN_div _ _
      rw [h2, ← same (k + 1) (by omega) hk]
      exact .step h1 (by rw [hV]; exact hS.it_lt _ hx) rfl
  have := key (per (nxS u) N x - 1) (by omega)
  rw [show per (nxS u) N x - 1 + 1 = per (nxS u) N x by omega, p2] at this
  exact this
section
variable {sa ma sb mb : List Int} (ha : IsD sa ma 0) (hb : IsD sb mb 0)
include ha hb
theorem un_len4 : (unM ma mb).length = 4 * (sa.length + sb.length) := by rw [unM_len, ha.2.1, hb.2.1]; omega
theorem un_nx (k : Nat) : (∀ x, x < ma.length → turnN (gn (unM ma mb) x) k = turnN (gn ma x) k) ∧ ∀ x, x < mb.length → turnN (gn (unM ma mb) (ma.length + x)) k = ma.length + turnN (gn mb x) k := by
  refine ⟨fun x hx => by rw [gn_unA hx], fun x hx => ?_⟩
  rw [gn_unB hb hx]
  have := ha.2.1
  unfold turnN
  omega
theorem un_outS : ∀ g, g < ma.length + mb.length → outB (sa ++ sb) (nxS (unM ma mb) g) = outB (sa ++ sb) g := fun g hg => by
  by_cases hlt : g < ma.length
  · have h1 := (un_nx ha hb 2).1 g hlt
    have h2 := (nxS_perm ha.2.2.2.2.2.1 ha.2.1).lt g hlt
    show outB (sa ++ sb) (turnN (gn (unM ma mb) g) 2) = _
    rw [h1, outB_apA ha hlt]
    show outB (sa ++ sb) (nxS ma g) = _
    rw [outB_apA ha h2]
    exact out_nxS ha g hlt
  · obtain ⟨k, rfl⟩ : ∃ k, g = ma.length + k := ⟨g - ma.length, by omega⟩
    have h1 := (un_nx ha hb 2).2 k (by omega)
    show outB (sa ++ sb) (turnN (gn (unM ma mb) (ma.length + k)) 2) = _
    rw [h1, outB_apB ha, outB_apB ha]
    exact out_nxS hb k (by omega)
omit ha hb in
theorem un_cnA {c d : Nat} (h : Cn ma c d) : Cn (unM ma mb) c d := by
  induction h with
  | refl => exact .refl
  | @step d h _ hl he ih =>
    rw [← gn_unA (mb := mb) hl]
    exact .step ih (by rw [unM_len]; omega) he
theorem un_cnB {c d : Nat} (h : Cn mb c d) : Cn (unM ma mb) (sa.length + c) (sa.length + d) := by
  have hn := ha.2.1
  induction h with
  | refl => exact .refl
  | @step d h _ hl he ih =>
    have h1 := gn_unB (ma := ma) hb hl
    have h2 : sa.length + gn mb h / 4 = gn (unM ma mb) (ma.length + h) / 4 := by rw [h1]; omega
    rw [h2]
    exact .step ih (by rw [unM_len]; omega) (by omega)
end
/-! ### the sum along x and y -/
def suM (ma mb : List Int) (x y : Nat) : List Int := crM (unM ma mb) x (ma.length + y)
section
variable {sa ma sb mb : List Int} (ha : IsD sa ma 0) (hb : IsD sb mb 0) {x y : Nat} (hx : x < ma.length) (hy : y < mb.length) (ox : outB sa x = true) (oy : outB sb y = true)
include ha hb hx hy
theorem su_ne : x < (unM ma mb).length ∧ ma.length + y < (unM ma mb).length ∧ x ≠ ma.length + y ∧ gn (unM ma mb) x ≠ ma.length + y ∧ gn (unM ma mb) x < ma.length ∧ gn (unM ma mb) x = gn ma x ∧ gn (unM ma mb) (ma.length + y) = ma.length + gn mb y ∧ gn mb y < mb.length := by
  have h1 := gn_unA (mb := mb) hx
  have h2 := (ha.2.2.2.2.2.1.gn hx).2.1
  have h3 := gn_unB (ma := ma) hb hy
  have h4 := (hb.2.2.2.2.2.1.gn hy).2.1
  rw [unM_len, h1]
  exact ⟨by omega, by omega, by omega, by omega, h2, rfl, h3, h4⟩
omit hx hy in
theorem su_len : (suM ma mb x y).length = 4 * (sa.length + sb.length) := by unfold suM; rw [crM_len, un_len4 ha hb]
theorem su_inv : InvM (suM ma mb x y) := by
  obtain ⟨h1, h2, h3, h4, -⟩ := su_ne ha hb hx hy
  exact cr_inv (un_inv ha hb) h1 h2 h3 h4
theorem su_gn {z : Nat} (hz : z < (unM ma mb).length) : gn (suM ma mb x y) z = gn (unM ma mb) (sw x (ma.length + y) (sw (gn ma x) (ma.length + gn mb y) z)) := by
  obtain ⟨h1, h2, h3, h4, -, h6, h7, -⟩ := su_ne ha hb hx hy
  rw [← h6, ← h7]
  exact cr_gn (un_inv ha hb) h1 h2 h3 h4 hz
/-- the faces: two are lost -/
theorem su_faces : cnt (lstB (nxF (suM ma mb x y)) (ma.length + mb.length)) (ma.length + mb.length) + 2 = cnt (lstB (nxF ma) ma.length) ma.length + cnt (lstB (nxF mb) mb.length) mb.length := by
  obtain ⟨h1, h2, h3, h4, h5, h6, h7, h8⟩ := su_ne ha hb hx hy
  have hl := unM_len ma mb
  rw [hl] at h1 h2
  have hA := nxF_perm ha.2.2.2.2.2.1 ha.2.1
  have hB := nxF_perm hb.2.2.2.2.2.1 hb.2.1
  have hF : PermB (nxF (unM ma mb)) (ma.length + mb.length) := by have := nxF_perm (un_inv ha hb) (un_len4 ha hb); rwa [hl] at this
  have b1 : ∀ x, x < ma.length → nxF (unM ma mb) x = nxF ma x := (un_nx ha hb 3).1
  have b2 : ∀ x, x < mb.length → nxF (unM ma mb) (ma.length + x) = ma.length + nxF mb x := (un_nx ha hb 3).2
  have hP1 := sw_perm hF h1 h2
  have hp : gn ma x < ma.length + mb.length := by omega
  have hq : ma.length + gn mb y < ma.length + mb.length := by omega
  have far : ∀ c d, c < ma.length → rc (nxF (unM ma mb)) (ma.length + mb.length) c (ma.length + d) = false := fun c d hc => by
    rw [Bool.eq_false_iff]
    intro h
    have := (blk_rcA hF hA b1 hc h).1
    omega
  have j1 := ncls_joins hF h1 h2 (far x y hx)
  have e2 : rc (fun z => nxF (unM ma mb) (sw x (ma.length + y) z)) (ma.length + mb.length) (gn ma x) (ma.length + gn mb y) = false := by
    rw [Bool.eq_false_iff]
    intro h
    have hj := sw_sub hF h1 h2 hp hq (joinB_iff.2 (.inl h))
    rcases joinB_iff.1 hj with h | ⟨h, -⟩ | ⟨h, -⟩
    · rw [far _ _ (by omega)] at h; cases h
    · have h9 := (blk_rcA hF hA b1 (by omega) h).2
      have h10 := two_sides ha (h := gn ma x) (by omega)
      rw [(ha.2.2.2.2.2.1.gn hx).2.2.2] at h10
      exact h10 (of_decide_eq_true h9)
    · rw [far _ _ (by omega)] at h; cases h
  have j2 := ncls_joins hP1 hp hq e2
  have hP2 := sw_perm hP1 hp hq
  have tot : ncls (rc (nxF (unM ma mb)) (ma.length + mb.length)) (ma.length + mb.length) = cnt (lstB (nxF ma) ma.length) ma.length + cnt (lstB (nxF mb) mb.length) mb.length := by
    rw [ncls_all hF, blk_cnt hF hA hB b1 b2 fun _ => true]
    refine _root_.congr (_root_.congrArg _ (cnt_congr fun x _ => ?_)) (cnt_congr fun x _ => ?_) <;> simp
  have lst : cnt (lstB (nxF (suM ma mb x y)) (ma.length + mb.length)) (ma.length + mb.length) = ncls (rc (fun z => nxF (unM ma mb) (sw x (ma.length + y) (sw (gn ma x) (ma.length + gn mb y) z))) (ma.length + mb.length)) (ma.length + mb.length) := by
    rw [ncls_rc hP2]
    refine cnt_congr fun z hz => lst_same hP2 (fun z hz => ?_) hz
    show turnN (gn (suM ma mb x y) z) 3 = turnN _ 3
    rw [su_gn ha hb hx hy (by rw [hl]; exact hz)]
  rw [lst]
  omega
include ox oy
theorem su_sides : outB (sa ++ sb) x = true ∧ outB (sa ++ sb) (ma.length + y) = true ∧ outB (sa ++ sb) (gn ma x) = false ∧ outB (sa ++ sb) (ma.length + gn mb y) = false := by
  refine ⟨by rw [outB_apA ha hx]; exact ox, by rw [outB_apB ha]; exact oy, ?_, ?_⟩
  · rw [outB_apA ha (ha.2.2.2.2.2.1.gn hx).2.1]; exact mate_in ha hx ox
  · rw [outB_apB ha]; exact mate_in hb hy oy
theorem su_out : OutM (sa ++ sb) (suM ma mb x y) := by
  obtain ⟨h1, h2, h3, h4, -⟩ := su_ne ha hb hx hy
  obtain ⟨o1, o2, -, -⟩ := su_sides ha hb hx hy ox oy
  exact cr_out (un_inv ha hb) h1 h2 h3 h4 (un_out ha hb) o1 o2
/-- mates of outgoing half-edges -/
theorem su_gnO {z : Nat} (hz : z < ma.length + mb.length) (oz : outB (sa ++ sb) z = true) : gn (suM ma mb x y) z = gn (unM ma mb) (sw x (ma.length + y) z) := by
  obtain ⟨-, -, o3, o4⟩ := su_sides ha hb hx hy ox oy
  rw [su_gn ha hb hx hy (by rw [unM_len]; exact hz), sw_o (x := gn ma x) (fun e => by rw [e, o3] at oz; cases oz) (fun e => by rw [e, o4] at oz; cases oz)]
theorem su_swO (z : Nat) : outB (sa ++ sb) (sw x (ma.length + y) z) = outB (sa ++ sb) z := by
  obtain ⟨o1, o2, -, -⟩ := su_sides ha hb hx hy ox oy
  by_cases e1 : z = x
  · rw [e1, sw_l, o1, o2]
  · by_cases e2 : z = ma.length + y
    · rw [e2, sw_r, o1, o2]
    · rw [sw_o e1 e2]
theorem su_swI {z : Nat} (oz : outB (sa ++ sb) z = false) : sw x (ma.length + y) z = z := by
  obtain ⟨o1, o2, -, -⟩ := su_sides ha hb hx hy ox oy
  exact sw_o (fun e => by rw [e, o1] at oz; cases oz) (fun e => by rw [e, o2] at oz; cases oz)
/-- the circles: one is lost -/
theorem su_circ : ncls (rc (nxC (sa ++ sb) (suM ma mb x y)) (ma.length + mb.length)) (ma.length + mb.length) + 1 = ncls (rc (nxC sa ma) ma.length) ma.length + ncls (rc (nxC sb mb) mb.length) mb.length := by
  obtain ⟨h1, h2, h3, h4, h5, h6, h7, h8⟩ := su_ne ha hb hx hy
  have hl := unM_len ma mb
  rw [hl] at h1 h2
  have hna := ha.2.1
  have hnb := hb.2.1
  have hA := nxC_perm ha
  have hB := nxC_perm hb
  have b1 : ∀ z, z < ma.length → nxC (sa ++ sb) (unM ma mb) z = nxC sa ma z := fun z hz => by
    have hg := (ha.2.2.2.2.2.1.gn hz).2.1
    unfold nxC nxR overN
    rw [outB_apA ha hz, gn_unA hz, gi_apA (show gn ma z / 4 < sa.length by omega)]
  have b2 : ∀ z, z < mb.length → nxC (sa ++ sb) (unM ma mb) (ma.length + z) = ma.length + nxC sb mb z := fun z hz => by
    have hg := (hb.2.2.2.2.2.1.gn hz).2.1
    unfold nxC nxR overN
    rw [outB_apB ha, gn_unB hb hz, show (ma.length + gn mb z) / 4 = sa.length + gn mb z / 4 by omega, gi_apB, show (ma.length + gn mb z) % 4 = gn mb z % 4 by omega]
    split
    · split
      · split <;> omega
      · omega
    · rfl
  have hF := blk_perm hA hB b1 b2
  have far : rc (nxC (sa ++ sb) (unM ma mb)) (ma.length + mb.length) x (ma.length + y) = false := by
    rw [Bool.eq_false_iff]
    intro h
    have := (blk_rcA hF hA b1 hx h).1
    omega
  have j1 := ncls_joins hF h1 h2 far
  have hP1 := sw_perm hF h1 h2
  have same : ∀ z, z < ma.length + mb.length → nxC (sa ++ sb) (suM ma mb x y) z = nxC (sa ++ sb) (unM ma mb) (sw x (ma.length + y) z) := fun z hz => by
    unfold nxC
    rw [su_swO ha hb hx hy ox oy]
    by_cases oz : outB (sa ++ sb) z = true
    · rw [if_pos oz, if_pos oz]
      unfold nxR
      rw [su_gnO ha hb hx hy ox oy hz oz]
    · rw [if_neg oz, if_neg oz, su_swI ha hb hx hy ox oy (Bool.eq_false_iff.2 oz)]
  have e1 : ncls (rc (nxC (sa ++ sb) (suM ma mb x y)) (ma.length + mb.length)) (ma.length + mb.length) = ncls (rc (fun z => nxC (sa ++ sb) (unM ma mb) (sw x (ma.length + y) z)) (ma.length + mb.length)) (ma.length + mb.length) := by
    rw [ncls_rc hP1, ncls_rc (hP1.same same)]
    exact cnt_congr fun z hz => lst_same hP1 same hz
  have e2 : ncls (rc (nxC (sa ++ sb) (unM ma mb)) (ma.length + mb.length)) (ma.length + mb.length) = ncls (rc (nxC sa ma) ma.length) ma.length + ncls (rc (nxC sb mb) mb.length) mb.length := by
    rw [ncls_all hF, ncls_all hA, ncls_all hB, blk_cnt hF hA hB b1 b2 fun _ => true]
  omega
/-- the strands: one is lost -/
theorem su_strands : cnt (fun z => outB (sa ++ sb) z && lstB (nxS (suM ma mb x y)) (ma.length + mb.length) z) (ma.length + mb.length) + 1 = (strandsL sa ma).length + (strandsL sb mb).length := by
  obtain ⟨h1, h2, h3, h4, h5, h6, h7, h8⟩ := su_ne ha hb hx hy
  have hl := unM_len ma mb
  rw [hl] at h1 h2
  have hA := nxS_perm ha.2.2.2.2.2.1 ha.2.1
  have hB := nxS_perm hb.2.2.2.2.2.1 hb.2.1
  have hF : PermB (nxS (unM ma mb)) (ma.length + mb.length) := by have := nxS_perm (un_inv ha hb) (un_len4 ha hb); rwa [hl] at this
  have hV : PermB (nxS (suM ma mb x y)) (ma.length + mb.length) := by have := nxS_perm (su_inv ha hb hx hy) (su_len ha hb); rwa [show (suM ma mb x y).length = ma.length + mb.length by unfold suM; rw [crM_len, hl]] at this
  have b1 : ∀ x, x < ma.length → nxS (unM ma mb) x = nxS ma x := (un_nx ha hb 2).1
  have b2 : ∀ x, x < mb.length → nxS (unM ma mb) (ma.length + x) = ma.length + nxS mb x := (un_nx ha hb 2).2
  have ho := un_outS ha hb
  have far : rc (nxS (unM ma mb)) (ma.length + mb.length) x (ma.length + y) = false := by
    rw [Bool.eq_false_iff]
    intro h
    have := (blk_rcA hF hA b1 hx h).1
    omega
  have j1 := ncls_joins hF h1 h2 far
  have hP1 := sw_perm hF h1 h2
  rw [ncls_rc hP1, ncls_rc hF, cnt_split _ (outB (sa ++ sb)), cnt_split (lstB (nxS (unM ma mb)) _) (outB (sa ++ sb))] at j1
  have k1 : cnt (fun z => lstB (fun z => nxS (unM ma mb) (sw x (ma.length + y) z)) (ma.length + mb.length) z && !outB (sa ++ sb) z) (ma.length + mb.length) = cnt (fun z => lstB (nxS (unM ma mb)) (ma.length + mb.length) z && !outB (sa ++ sb) z) (ma.length + mb.length) := by
    refine cnt_congr fun z hz => ?_
    cases oz : outB (sa ++ sb) z
    · rw [lst_part hF hP1 (P := fun z => !outB (sa ++ sb) z) (fun z hz => by rw [ho z hz]) (fun z hz oz => by rw [su_swI ha hb hx hy ox oy (by simpa using oz)]) hz (by rw [oz]; rfl)]
    · simp
  have k2 : cnt (fun z => outB (sa ++ sb) z && lstB (nxS (suM ma mb x y)) (ma.length + mb.length) z) (ma.length + mb.length) = cnt (fun z => lstB (fun z => nxS (unM ma mb) (sw x (ma.length + y) z)) (ma.length + mb.length) z && outB (sa ++ sb) z) (ma.length + mb.length) := by
    refine cnt_congr fun z hz => ?_
    cases oz : outB (sa ++ sb) z
    · simp
    · rw [lst_part hP1 hV (P := outB (sa ++ sb)) (fun z hz => by rw [ho _ (sw_lt h1 h2 hz), su_swO ha hb hx hy ox oy]) (fun z hz oz => by show turnN (gn (suM ma mb x y) z) 2 = turnN _ 2; rw [su_gnO ha hb hx hy ox oy hz oz]) hz oz]
      simp
  have k3 : cnt (fun z => lstB (nxS (unM ma mb)) (ma.length + mb.length) z && outB (sa ++ sb) z) (ma.length + mb.length) = (strandsL sa ma).length + (strandsL sb mb).length := by
    rw [strands_len', strands_len', cnt_congr (fun z _ => Bool.and_comm _ _), blk_cnt hF hA hB b1 b2]
    refine _root_.congr (_root_.congrArg _ (cnt_congr fun z hz => ?_)) (cnt_congr fun z hz => ?_)
    · rw [outB_apA ha hz]
    · rw [outB_apB ha]
  rw [k1, k3] at j1
  rw [k2]
  omega
/-- the sum is in one piece -/
theorem su_conn (ga : (graphL ma sa.length).length = 1) (gb : (graphL mb sb.length).length = 1) : ∀ c, c < sa.length + sb.length → Cn (suM ma mb x y) 0 c := by
  obtain ⟨h1, h2, h3, h4, h5, h6, h7, h8⟩ := su_ne ha hb hx hy
  have hl := unM_len ma mb
  rw [hl] at h1 h2
  have hna := ha.2.1
  have hnb := hb.2.1
  have hU := un_inv ha hb
  have hV := su_inv ha hb hx hy
  have hvl : (suM ma mb x y).length = ma.length + mb.length := by unfold suM; rw [crM_len, hl]
  have hA := nxS_perm ha.2.2.2.2.2.1 ha.2.1
  have hB := nxS_perm hb.2.2.2.2.2.1 hb.2.1
  have hF : PermB (nxS (unM ma mb)) (ma.length + mb.length) := by have := nxS_perm hU (un_len4 ha hb); rwa [hl] at this
  have b1 : ∀ x, x < ma.length → nxS (unM ma mb) x = nxS ma x := (un_nx ha hb 2).1
  have b2 : ∀ x, x < mb.length → nxS (unM ma mb) (ma.length + x) = ma.length + nxS mb x := (un_nx ha hb 2).2
  obtain ⟨o1, o2, o3, o4⟩ := su_sides ha hb hx hy ox oy
  have hout : ∀ {z}, z < ma.length + mb.length → outB (sa ++ sb) z = true → ∀ k, outB (sa ++ sb) (it (nxS (unM ma mb)) k z) = true := fun {z} hz oz k => by
    induction k with
    | zero => exact oz
    | succ k ih =>
      show outB (sa ++ sb) (nxS (unM ma mb) (it (nxS (unM ma mb)) k z)) = true
      rw [un_outS ha hb _ (hF.it_lt k hz)]
      exact ih
  have keep : ∀ z, z < ma.length + mb.length → z ≠ x → z ≠ ma.length + y → z ≠ gn ma x → z ≠ ma.length + gn mb y → gn (suM ma mb x y) z = gn (unM ma mb) z := fun z hz n1 n2 n3 n4 => by
    rw [su_gn ha hb hx hy (by rw [hl]; exact hz), sw_o n3 n4, sw_o n1 n2]
  have notin : ∀ {z}, outB (sa ++ sb) z = true → z ≠ gn ma x ∧ z ≠ ma.length + gn mb y := fun {z} oz => ⟨fun e => (by rw [e, o3] at oz; cases oz), fun e => (by rw [e, o4] at oz; cases oz)⟩
  have linkx : Cn (suM ma mb x y) (gn ma x / 4) (x / 4) := by
    have := link hvl hF h1 fun k hk hp => by
      have hlt := hF.it_lt k h1
      have hz := hout h1 o1 k
      have e := blk_itA hA b1 hx k
      have hA' := hA.it_lt k hx
      refine keep _ hlt ((per_spec hF h1).2.2.2 k hk hp) (by rw [e]; omega) (notin hz).1 (notin hz).2
    rwa [h6] at this
  have linky : Cn (suM ma mb x y) ((ma.length + gn mb y) / 4) ((ma.length + y) / 4) := by
    have := link hvl hF h2 fun k hk hp => by
      have hlt := hF.it_lt k h2
      have hz := hout h2 o2 k
      have e := blk_itB hB b2 hy k
      refine keep _ hlt (by rw [e]; omega) ((per_spec hF h2).2.2.2 k hk hp) (notin hz).1 (notin hz).2
    rwa [h7] at this
  have hax := (ha.2.2.2.2.2.1.gn hx).2.2.2
  have hby := (hb.2.2.2.2.2.1.gn hy).2.2.2
  have up : ∀ {c d}, Cn (unM ma mb) c d → Cn (suM ma mb x y) c d := fun {c d} h => by
    induction h with
    | refl => exact .refl
    | @step d h _ hlt he ih =>
      rw [hl] at hlt
      by_cases n1 : h = x
      · subst n1; rw [h6]; rw [← he] at ih; exact ih.trans (linkx.symm hV)
      · by_cases n2 : h = ma.length + y
        · subst n2; rw [h7]; rw [← he] at ih; exact ih.trans (linky.symm hV)
        · by_cases n3 : h = gn ma x
          · subst n3
            rw [gn_unA (ha.2.2.2.2.2.1.gn hx).2.1, hax]
            rw [← he] at ih
            exact ih.trans linkx
          · by_cases n4 : h = ma.length + gn mb y
            · subst n4
              rw [gn_unB hb h8, hby]
              rw [← he] at ih
              exact ih.trans linky
            · rw [← keep h hlt n1 n2 n3 n4]
              exact .step ih (by rw [hvl]; exact hlt) he
  have bridge : Cn (suM ma mb x y) (x / 4) ((ma.length + gn mb y) / 4) := by
    have := Cn.one (mt := suM ma mb x y) (h := x) (by rw [hvl]; exact h1)
    rw [su_gnO ha hb hx hy ox oy h1 o1, sw_l, h7] at this
    exact this
  obtain ⟨p1, q1⟩ := one_lab ha.2.2.2.2.2.1 ha.2.1 ga
  obtain ⟨p2, q2⟩ := one_lab hb.2.2.2.2.2.1 hb.2.1 gb
  intro c hc
  by_cases hlt : c < sa.length
  · exact up (un_cnA (q1 0 c p1 hlt))
  · have e : c = sa.length + (c - sa.length) := by omega
    have r1 := up (un_cnA (mb := mb) (q1 0 (x / 4) p1 (by omega)))
    have r2 := up (un_cnB ha hb (q2 (gn mb y / 4) (c - sa.length) (by omega) (by omega)))
    rw [← e, show sa.length + gn mb y / 4 = (ma.length + gn mb y) / 4 by omega] at r2
    exact (r1.trans bridge).trans r2
/-- THE CONNECTED SUM is a diagram in one piece; its circles and strands -/
theorem sum_all (ga : (graphL ma sa.length).length = 1) (gb : (graphL mb sb.length).length = 1) (h64 : sa.length + sb.length ≤ 64) :
    IsD (sa ++ sb) (suM ma mb x y) 0 ∧ (graphL (suM ma mb x y) (sa ++ sb).length).length = 1 ∧ (strandsL (sa ++ sb) (suM ma mb x y)).length + 1 = (strandsL sa ma).length + (strandsL sb mb).length ∧
    (circL (sa ++ sb) (suM ma mb x y)).length + 1 = (circL sa ma).length + (circL sb mb).length := by
  have hl := unM_len ma mb
  have hvl : (suM ma mb x y).length = ma.length + mb.length := by unfold suM; rw [crM_len, hl]
  have hap : (sa ++ sb).length = sa.length + sb.length := List.length_append
  have hV := su_inv ha hb hx hy
  have hV4 := su_len (x := x) (y := y) ha hb
  obtain ⟨p1, -⟩ := one_lab ha.2.2.2.2.2.1 ha.2.1 ga
  obtain ⟨g1, g2, g3⟩ := lab_one hV hV4 (by omega) (su_conn ha hb hx hy ox oy ga gb)
  have hf := su_faces ha hb hx hy
  have fa := euler_all ha
  have fb := euler_all hb
  have ea := graphL_idx ha.2.2.2.2.2.1 ha.2.1
  have eb := graphL_idx hb.2.2.2.2.2.1 hb.2.1
  have ia : idxAt ma sa.length sa.length = 1 := by rw [← ga, ← ea]; simp
  have ib : idxAt mb sb.length sb.length = 1 := by rw [← gb, ← eb]; simp
  rw [ia] at fa
  rw [ib] at fb
  have hD : IsD (sa ++ sb) (suM ma mb x y) 0 := by
    refine ⟨by rw [hap]; exact h64, by rw [hap]; exact hV4, Int.le_refl _, by decide, ap_sg ha hb, hV, su_out ha hb hx hy ox oy, ?_⟩
    rw [hap]
    intro p hp
    rw [g2] at hp
    obtain rfl : p = 0 := by omega
    have e1 : facesOf (suM ma mb x y) (sa.length + sb.length) 0 (suM ma mb x y).length = cnt (lstB (nxF (suM ma mb x y)) (ma.length + mb.length)) (ma.length + mb.length) := by
      unfold facesOf
      rw [hvl]
      refine cnt_congr fun h hh => ?_
      rw [g3 (h / 4) (by omega)]
      simp
    have e2 : crossOf (suM ma mb x y) (sa.length + sb.length) 0 (sa.length + sb.length) = sa.length + sb.length := by
      unfold crossOf
      rw [cnt_congr (Q := fun _ => true) fun c hc => by rw [g3 c hc]; simp]
      have : ∀ m, cnt (fun _ => true) m = m := fun m => by
        induction m with
        | zero => rfl
        | succ m ih => rw [cnt_succ, ih, if_pos rfl]
      exact this _
    rw [e1, e2]
    omega
  refine ⟨hD, by rw [hap]; exact g1, ?_, ?_⟩
  · have := su_strands ha hb hx hy ox oy
    rw [strands_len', hvl]
    exact this
  · have h1 := su_circ ha hb hx hy ox oy
    have h2 := ncls_circ hD
    have h3 := ncls_circ ha
    have h4 := ncls_circ hb
    rw [hvl] at h2
    rw [hap] at h2
    omega
end
end Go.Proofs.Ytaghemilihaiaaa

