/-
  Append of a whole slice of integers onto a fresh row, in a region that draws its order.
  The contract of symmetric.
  The numbers of Inertia between two rounds, and what the closures do to them.
-/
import Derived.Test.YteanhbldhaiekaaZ02
import Derived.Test.YteanhbldhaiekaaZ20
import Derived.Test.YteanhbldhaiekaaZ27
import Derived.Test.YteanhbldhaiekaaZ15
import Derived.Deep.RegionHeld3
namespace Go.Proofs.Yteanhbldhaiekaa
open Go.RowKit

set_option maxRecDepth 100000 in
theorem wp_appN {o : Oper} {a : Act} {K : Act → World → Prop} {Q : Exit → Act → World → Prop} {w : World} {B c : Nat} {v : Value} {xs ys : List Int} {s x : Operand} {t : TypeId} {S : Nat → Prop} {A : Option Addr}
    (hown : OI w B v xs) (hr : RI w S A ys) (hl : xs.length + ys.length < 1099511627776) (hB : B ≤ w.heap.size)
    (ho : o.op = .call { callee := .builtin .append, args := #[s, x], argTypes := #[t, t] })
    (ht : Try.prog.underlying t = some (.slice 3)) (hs : a.eval s = v) (hx : a.eval x = .slice A ys.length c)
    (h : ∀ v' w', OI w' B v' (xs ++ ys) → w.grownBy w' v.ownBlock → (v'.ownBlock = v.ownBlock ∨ v'.ownBlock = some w.heap.size) → K (a.put o.dst v') w') :
    o.wp Try.prog a w K Q := by
  obtain ⟨i0, hi, hz0, hz1, hz2⟩ := info_parts int_info
  have hrun : ∃ v' w', (Builtin.append_ #[t, t] o.type #[v, .slice A ys.length c]).run Try.prog w = .ok v' w' ∧ OI w' B v' (xs ++ ys) ∧ w.grownBy w' v.ownBlock ∧ (v'.ownBlock = v.ownBlock ∨ v'.ownBlock = some w.heap.size) := by
    rcases A with _ | ad
    · have hy : ys = [] := by
        rcases ys with _ | ⟨y, ys⟩
        · rfl
        · obtain ⟨b, off, he, _⟩ := hr (by simp)
          cases he
      subst hy
      exact ⟨v, w, run_app_nil ht hown c, by simpa using hown, World.grownBy.refl w _, .inl rfl⟩
    · have hcells : ∀ j u, (ys.map (Value.int .i64))[j]? = some u → w.cell? (ad.add j) = some u := by
        intro j u hu
        have hj : j < ys.length := by
          have := (List.getElem?_eq_some_iff.1 hu).1
          simpa using this
        obtain ⟨b, off, he, _, hc⟩ := hr.at_ hj
        injection he with he
        subst he
        have := hc j hj
        rw [map_gi hj] at hu
        injection hu with hu
        subst hu
        unfold Addr.add
        split
        · rename_i h0
          subst h0
          simpa using this
        · exact this
      obtain ⟨v', w', hrun, h2, h3, _, h5⟩ := run_append_own_at (P := Try.prog) w B t o.type 3 i0 (.int .i64 0) 1 8 ht hi hz0 hz1 hz2 rfl (by decide) v xs.length _ hown
        ad ys.length c (ys.map (Value.int .i64)) (by simp) hcells (ints_oneCell _ _) (by unfold maxLen; omega) (by omega) hB
      refine ⟨v', w', hrun, ?_, h3, h5⟩
      show OR _ _ _ _ _ _
      unfold OR
      simpa using h2
  obtain ⟨v', w', hrun, h2, h3, h5⟩ := hrun
  unfold Oper.wp execOp
  simp only [ho, resolve, invoke, builtin, Sem.run_bind, Sem.run_pure, Result.andThen_ok, List.map_toArray, List.map_cons, List.map_nil, hs, hx, hrun]
  exact h v' w' h2 h3 h5
theorem step_appN {ops : Array Oper} {o : Oper} {a : Act} {K : Act → World → Prop} {Q : Exit → Act → World → Prop} {E : Prop} {w : World} {B c : Nat} {v : Value} {xs ys : List Int} {s x : Operand} {t : TypeId} {S : Nat → Prop} {A : Option Addr}
    (hown : OI w B v xs) (hr : RI w S A ys) (hl : xs.length + ys.length < 1099511627776) (hB : B ≤ w.heap.size) (hgd : o.guard = none)
    (ho : o.op = .call { callee := .builtin .append, args := #[s, x], argTypes := #[t, t] })
    (ht : Try.prog.underlying t = some (.slice 3)) (hs : a.eval s = v) (hx : a.eval x = .slice A ys.length c)
    (h : ∀ v' w', OI w' B v' (xs ++ ys) → w.grownBy w' v.ownBlock → (v'.ownBlock = v.ownBlock ∨ v'.ownBlock = some w.heap.size) → K (a.put o.dst v') w') :
    if Region.wanted o (yielded ops a.tmps) = true then Oper.wp Try.prog o a w K Q else E := by
  have hw : Region.wanted o (yielded ops a.tmps) = true := by simp [Region.wanted, hgd]
  rw [if_pos hw]
  exact wp_appN hown hr hl hB ho ht hs hx h
end Go.Proofs.Yteanhbldhaiekaa
namespace Go.Proofs.Yteanhbldhaiekaa
open Go.RowKit

def SqS (xss : List (List Int)) : Prop := (∀ i, i < xss.length → rowL xss i = xss.length) ∧ ∀ i, i < xss.length → ∀ j, j < i → eI xss i j = eI xss j i
instance (xss : List (List Int)) : Decidable (SqS xss) := by unfold SqS; infer_instance
theorem RL.cell {w : World} {S : Nat → Prop} {A : Option Addr} {xss : List (List Int)} (h : RL w S A xss) {i : Nat} (hi : i < xss.length) :
    ∃ b off, A = some ⟨b, off, none⟩ ∧ (∀ k, k < xss.length → ∃ Ak ck, w.cell? ⟨b, off + k, none⟩ = some (.slice Ak (rowL xss k) ck) ∧ (0 < rowL xss k → ∃ c o, Ak = some ⟨c, o, none⟩ ∧ ∀ j, j < rowL xss k → w.cell? ⟨c, o + j, none⟩ = some (.int .i64 (eI xss k j)))) := by
  obtain ⟨b, off, e, -, hc⟩ := h.at_ hi
  refine ⟨b, off, e, fun k hk => ?_⟩
  obtain ⟨Ak, ck, h1, h2, -⟩ := hc k hk
  refine ⟨Ak, ck, h1, fun h0 => ?_⟩
  obtain ⟨c, o, e2, -, h3⟩ := h2.at_ (k := 0) h0
  exact ⟨c, o, e2, h3⟩
set_option maxHeartbeats 4000000 in
theorem symmetric_any (A : Option Addr) (cap : Nat) (xss : List (List Int)) (n : Nat) (w : World) (hm : AM w A n xss) :
    Calls Try.prog 31 #[.slice A n cap] w fun e w' => e = .returned (.bool (decide (SqS xss))) ∧ ∃ k, w' = w.drewN k := by
  have hnl := hm.nl
  unfold maxLen at hnl
  have HX := Lib.hid hm.rd
  have HN := Lib.hid hm.ln
  clear hm
  go_enter Try.func31, Try.ntmps31
  go_wp2_with fail
  go_loopw [9] (fun i' wr => ∃ k : Nat, k ≤ n ∧ i' = .int .i64 k ∧ w = wr ∧ Hid (∀ i, i < k → rowL xss i = n)) (fun i _ => n - (intOf i).toNat)
  case atStart => exact ⟨0, Nat.zero_le _, rfl, rfl, fun i hi => by omega⟩
  case round =>
    obtain ⟨k, hk, rfl, rfl, HA⟩ := hrel
    by_cases hlt : k < n
    · obtain ⟨b, off, rfl, hc⟩ := HX.out.cell (i := k) (by rw [HN.out]; exact hlt)
      obtain ⟨Ak, ck, c2, -⟩ := hc k (by rw [HN.out]; exact hlt)
      clear hc
      by_cases he : rowL xss k = n
      · have he' : ((rowL xss k : Int) != (n : Int)) = false := by rw [bne_eq_false_iff_eq]; omega
        have HA' : Hid (∀ i, i < k + 1 → rowL xss i = n) := by
          intro i hi
          by_cases e : i = k
          · rw [e]; exact he
          · exact HA.out i (by omega)
        clear he HA
        go_wp2_with fail
        go_roundw
        case rel => exact ⟨k + 1, by omega, by go_num, by trivial, HA'⟩
        case measure => simp [intOf]; omega
      · have he' : ((rowL xss k : Int) != (n : Int)) = true := by rw [bne_iff_ne]; omega
        have HD := Lib.hid (decide_eq_false (show ¬ SqS xss from fun h => he (by have := h.1 k (by rw [HN.out]; exact hlt); rw [HN.out] at this; exact this)))
        go_wp2_with fail
        go_ret
        exact ⟨ret_bool HD.out.symm, 0, rfl⟩
    · have HALL : Hid (∀ i, i < n → rowL xss i = n) := fun i hi => HA.out i (by omega)
      clear HA
      have hkn : ¬ k < n := hlt
      go_wp2_with fail
      go_loopw [21] (fun i' wr => ∃ i : Nat, i ≤ n ∧ i' = .int .i64 i ∧ Hid (∃ z, wr = w.drewN z) ∧ Hid (∀ x, x < i → ∀ y, y < x → eI xss x y = eI xss y x)) (fun i _ => n - (intOf i).toNat)
      case atStart => exact ⟨0, Nat.zero_le _, rfl, Lib.hid ⟨0, rfl⟩, fun x hx => by omega⟩
      case round =>
        obtain ⟨i, hin, rfl, HW, HE⟩ := hrel
        by_cases hlt : i < n
        · go_wp2_with fail
          go_loopw [25] (fun j' wr => ∃ j : Nat, j ≤ i ∧ j' = .int .i64 j ∧ Hid (∃ z, wr = w.drewN z) ∧ Hid (∀ y, y < j → eI xss i y = eI xss y i)) (fun j _ => i - (intOf j).toNat)
          case atStart => exact ⟨0, Nat.zero_le _, rfl, HW, fun x hx => by omega⟩
          case round =>
            clear HW
            obtain ⟨j, hji, rfl, HW, HY⟩ := hrel
            by_cases hjl : j < i
            · have hx : RL wr (· < w.heap.size) A xss := by
                obtain ⟨z, hz⟩ := HW.out
                rw [hz]; exact HX.out.drewN z
              obtain ⟨b, off, rfl, hc⟩ := hx.cell (i := i) (by rw [HN.out]; exact hlt)
              obtain ⟨A1, c1, d1, e1⟩ := hc i (by rw [HN.out]; exact hlt)
              obtain ⟨A2, c2, d2, e2⟩ := hc j (by rw [HN.out]; omega)
              rw [HALL.out i hlt] at d1 e1
              rw [HALL.out j (by omega)] at d2 e2
              obtain ⟨g1, o1, rfl, f1⟩ := e1 (by omega)
              obtain ⟨g2, o2, rfl, f2⟩ := e2 (by omega)
              have k1 := f1 j (by omega)
              have k2 := f2 i (by omega)
              clear hx hc e1 e2 f1 f2
              obtain ⟨v1, hv1⟩ : ∃ v, eI xss i j = v := ⟨_, rfl⟩
              obtain ⟨v2, hv2⟩ : ∃ v, eI xss j i = v := ⟨_, rfl⟩
              rw [hv1] at k1
              rw [hv2] at k2
              by_cases he : v1 = v2
              · have he' : (v1 != v2) = false := by rw [bne_eq_false_iff_eq]; exact he
                have HN' : Hid (∀ y, y < j + 1 → eI xss i y = eI xss y i) := Lib.hid fun y hy => by
                  by_cases e : y = j
                  · rw [e, hv1, hv2]; exact he
                  · exact HY.out y (by omega)
                clear he hv1 hv2
                go_wp2_with fail
                go_quiet (fail)
                go_wp2_with fail
                go_roundw
                case rel =>
                  obtain ⟨z, hz⟩ := HW.out
                  exact ⟨j + 1, by omega, by go_num, Lib.hid ⟨_, by rw [hz, World.drewN_drewN]⟩, HN'⟩
                case measure => simp [intOf]; omega
              · have he' : (v1 != v2) = true := by rw [bne_iff_ne]; exact he
                have HD := Lib.hid (decide_eq_false (show ¬ SqS xss from fun h => he (by have := h.2 i (by rw [HN.out]; exact hlt) j hjl; rw [hv1, hv2] at this; exact this)))
                clear he hv1 hv2
                go_wp2_with fail
                go_quiet (fail)
                go_wp2_with fail
                go_ret
                obtain ⟨z, hz⟩ := HW.out
                exact ⟨ret_bool HD.out.symm, _, by rw [hz, World.drewN_drewN]⟩
            · obtain rfl : j = i := by omega
              have HN' : Hid (∀ x, x < j + 1 → ∀ y, y < x → eI xss x y = eI xss y x) := Lib.hid fun x hx y hy => by
                by_cases e : x = j
                · subst e; exact HY.out y hy
                · exact HE.out x (by omega) y hy
              go_wp2_with fail
              go_roundw
              case rel => exact ⟨j + 1, by omega, by go_num, HW, HN'⟩
              case measure => simp [intOf]; omega
        · obtain rfl : i = n := by omega
          have HD := Lib.hid (decide_eq_true (show SqS xss from ⟨fun x hx => by rw [HN.out] at hx ⊢; exact HALL.out x hx, fun x hx y hy => HE.out x (by rw [HN.out] at hx; exact hx) y hy⟩))
          go_wp2_with fail
          go_ret
          exact ⟨ret_bool HD.out.symm, HW.out⟩
end Go.Proofs.Yteanhbldhaiekaa
namespace Go.Proofs.Yteanhbldhaiekaa
open Go.RowKit

structure PS (n : Nat) (A : Mx) (D : Nat → Nat) (k : Nat) (b : Int) (a : Mx) (dn : Nat → Bool) (p q : Nat) : Prop where
  bst : BSt n A D k b p q
  dd : ∀ i, i < n → (dn i = true ↔ Dn D k i)
  en : ∀ i j, i < n → j < n → dn i = false → dn j = false → a i j = bm A D k i j
variable {n : Nat} {A : Mx} {D : Nat → Nat} {k : Nat} {b : Int} {a : Mx} {dn : Nat → Bool} {p q : Nat}
theorem PS.start (n : Nat) (A : Mx) : PS n A (fun _ => 0) 0 1 A (fun _ => false) 0 0 :=
  ⟨BSt.start n A _, fun i _ => ⟨fun h => (by cases h), fun ⟨_, h, _⟩ => absurd h (Nat.not_lt_zero _)⟩, fun i j _ _ _ _ => by
    unfold bm mn
    rw [det_succ]
    show A i j = 0 + sg1 0 * A i j * det 0 _
    rw [show sg1 0 = 1 from rfl]
    show A i j = 0 + 1 * A i j * 1
    omega⟩
theorem PS.not (h : PS n A D k b a dn p q) {i : Nat} (hi : i < n) (hd : dn i = false) : ¬ Dn D k i := fun e => by
  rw [(h.dd i hi).2 e] at hd
  cases hd
theorem dnP_f {i x : Nat} (h : dnP i dn x = false) : x ≠ i ∧ dn x = false := by
  unfold dnP at h
  by_cases e : x = i
  · rw [if_pos e] at h; cases h
  · rw [if_neg e] at h; exact ⟨e, h⟩
theorem dnP_of {i x : Nat} (h1 : x ≠ i) (h2 : dn x = false) : dnP i dn x = false := by unfold dnP; rw [if_neg h1]; exact h2
theorem dnP_dd {i : Nat} (h : ∀ x, x < n → (dn x = true ↔ Dn D k x)) : ∀ x, x < n → (dnP i dn x = true ↔ Dn (cn i D) (k + 1) x) := fun x hx => by
  rw [Dn.cn, ← h x hx]
  unfold dnP
  by_cases e : x = i
  · rw [if_pos e]; simp [e]
  · rw [if_neg e]; simp [e]
/-- one index -/
theorem PS.one (h : PS n A D k b a dn p q) (hA : Sym n A) (hb : bndM n n A ≤ 1125899906842624) {i : Nat} (hi : i < n) (hd : dn i = false) (h0 : a i i ≠ 0) :
    (∀ x y, x < n → y < n → dnP i dn x = false → dnP i dn y = false → QD a b (bm A (cn i D) (k + 1)) i x y) ∧ (a i i).natAbs ≤ 9007199254740992 ∧ b.natAbs ≤ 9007199254740992 ∧
      PS n A (cn i D) (k + 1) (a i i) (elA (dnP i dn) (bm A (cn i D) (k + 1)) a) (dnP i dn) (p + if (0 < a i i ↔ 0 < b) then 1 else 0) (q + if (0 < a i i ↔ 0 < b) then 0 else 1) := by
  have hii := h.en i i hi hi hd hd
  have b1 := h.bst.bd hi hi
  have b2 := h.bst.bbd
  rw [hii] at h0 ⊢
  refine ⟨fun x y hx hy ex ey => ?_, by omega, by omega, h.bst.one hA hi (h.not hi hd) h0, dnP_dd h.dd, fun x y hx hy ex ey => by unfold elA; rw [if_pos ⟨ex, ey⟩]⟩
  obtain ⟨-, dx⟩ := dnP_f ex
  obtain ⟨-, dy⟩ := dnP_f ey
  have e1 := h.en x y hx hy dx dy
  have e2 := h.en x i hx hi dx hd
  have e3 := h.en i y hi hy hd dy
  have c1 := h.bst.bd hx hy
  have c2 := h.bst.bd hx hi
  have c3 := h.bst.bd hi hy
  have c4 : (bm A (cn i D) (k + 1) x y).natAbs ≤ bndM n n A := h.bst.bd2 hx hi hy hi
  refine ⟨by rw [e1]; omega, by rw [e2]; omega, by rw [e3]; omega, ?_, by omega⟩
  rw [hii, e1, e2, e3]
  have := h.bst.dj x i y i
  rw [Int.mul_comm (bm A (cn i D) (k + 1) x y)]
  exact this.symm
/-- the numbers behind add -/
theorem wrap_in {x : Int} (h : x.natAbs ≤ 4611686018427387904) : IntKind.i64.wrap x = x := by rw [IntKind.wrap_i64]; omega
structure AdE (n : Nat) (a a1 : Mx) (dn : Nat → Bool) (x y : Nat) : Prop where
  o : ∀ i j, i < n → j < n → dn i = false → dn j = false → i ≠ x → j ≠ x → a1 i j = a i j
  r : ∀ j, j < n → dn j = false → j ≠ x → a1 x j = a x j + a y j
  c : ∀ i, i < n → dn i = false → i ≠ x → a1 i x = a i x + a i y
  d : a1 x x = (a x x + a y x) + (a x y + a y y)
theorem PS.ad (h : PS n A D k b a dn p q) (hb : bndM n n A ≤ 1125899906842624) {x y : Nat} (hx : x < n) (hy : y < n) (dx : dn x = false) (dy : dn y = false) : AdE n a (ad2 x y n (ad1 x y n a)) dn x y := by
  have hbd : ∀ i j, i < n → j < n → dn i = false → dn j = false → (a i j).natAbs ≤ 1125899906842624 := fun i j hi hj di dj => by
    rw [h.en i j hi hj di dj]
    exact Nat.le_trans (h.bst.bd hi hj) hb
  have r1 : ∀ j, j < n → dn j = false → ad1 x y n a x j = a x j + a y j := fun j hj dj => by
    unfold ad1
    rw [if_pos ⟨rfl, hj⟩]
    have := hbd x j hx hj dx dj
    have := hbd y j hy hj dy dj
    exact wrap_in (by omega)
  have o1 : ∀ i j, i ≠ x → ad1 x y n a i j = a i j := fun i j hi => by
    unfold ad1
    rw [if_neg fun h => hi h.1]
  refine ⟨fun i j hi hj di dj ix jx => ?_, fun j hj dj jx => ?_, fun i hi di ix => ?_, ?_⟩
  · unfold ad2
    rw [if_neg fun h => jx h.1, o1 i j ix]
  · unfold ad2
    rw [if_neg fun h => jx h.1, r1 j hj dj]
  · unfold ad2
    rw [if_pos ⟨rfl, hi⟩, o1 i x ix, o1 i y ix]
    have := hbd i x hi hx di dx
    have := hbd i y hi hy di dy
    exact wrap_in (by omega)
  · unfold ad2
    rw [if_pos ⟨rfl, hx⟩, r1 x hx dx, r1 y hy dy]
    have := hbd x x hx hx dx dx
    have := hbd x y hx hy dx dy
    have := hbd y x hy hx dy dx
    have := hbd y y hy hy dy dy
    exact wrap_in (by omega)
/-- two indices -/
theorem PS.two (h : PS n A D k b a dn p q) (hA : Sym n A) (hb : bndM n n A ≤ 1125899906842624) {x y : Nat} (hx : x < n) (hy : y < n) (dx : dn x = false) (dy : dn y = false) (h1 : a x x = 0) (h2 : a y y = 0) (h0 : a x y ≠ 0) :
    ∃ (c t : Int) (a1 a2 a3 r1 r2 : Mx), a1 = ad2 x y n (ad1 x y n a) ∧ a1 x x = c ∧ c ≠ 0 ∧ b.natAbs ≤ 9007199254740992 ∧ c.natAbs ≤ 9007199254740992 ∧ t.natAbs ≤ 9007199254740992 ∧
      (∀ i j, i < n → j < n → dnP x dn i = false → dnP x dn j = false → QD a1 b r1 x i j) ∧ a2 = elA (dnP x dn) r1 a1 ∧ a2 y y = t ∧
      (∀ i j, i < n → j < n → dnP y (dnP x dn) i = false → dnP y (dnP x dn) j = false → QD a2 c r2 y i j) ∧ a3 = elA (dnP y (dnP x dn)) r2 a2 ∧
      PS n A (cn y (cn x D)) (k + 2) t a3 (dnP y (dnP x dn)) (p + 1) (q + 1) ∧
      (p + (if (0 < c ↔ 0 < b) then 1 else 0)) + (if (0 < t ↔ 0 < c) then 1 else 0) = p + 1 ∧ (q + (if (0 < c ↔ 0 < b) then 0 else 1)) + (if (0 < t ↔ 0 < c) then 0 else 1) = q + 1 := by
  have hne : x ≠ y := fun e => h0 (by rw [← e]; exact h1)
  have had := h.ad hb hx hy dx dy
  have exx := h.en x x hx hx dx dx
  have eyy := h.en y y hy hy dy dy
  have exy := h.en x y hx hy dx dy
  have eyx := h.en y x hy hx dy dx
  rw [h1] at exx
  rw [h2] at eyy
  rw [exy] at h0
  rw [h.bst.sym hA hy hx] at eyx
  obtain ⟨hB, htb⟩ := h.bst.two hA hx hy (h.not hx dx) (h.not hy dy) exx.symm eyy.symm h0
  have hD : (ad2 x y n (ad1 x y n a)) x x = 2 * bm A D k x y := by rw [had.d, h1, h2, exy, eyx]; omega
  generalize hG : ad2 x y n (ad1 x y n a) = a1 at had hD
  have dyx : dnP x dn y = false := dnP_of (Ne.symm hne) dy
  have bxy := h.bst.bd hx hy
  have btt := h.bst.bdt hx hy hy hy
  have bbb := h.bst.bbd
  have hr1 : ∀ i, i < n → dn i = false → a i x + a i y = bm A D k i x + bm A D k i y := fun i hi di => by rw [h.en i x hi hx di dx, h.en i y hi hy di dy]
  have hr2 : ∀ j, j < n → dn j = false → a x j + a y j = bm A D k x j + bm A D k y j := fun j hj dj => by rw [h.en x j hx hj dx dj, h.en y j hy hj dy dj]
  refine ⟨2 * bm A D k x y, tw A D k x y y y, a1, _, _, tw A D k x y, bm A (cn y (cn x D)) (k + 2), rfl, hD, by omega, by omega, by omega, by omega, fun i j hi hj di dj => ?_, rfl, ?_, fun i j hi hj di dj => ?_, rfl, ⟨hB, dnP_dd (dnP_dd h.dd), fun i j hi hj di dj => ?_⟩, ?_, ?_⟩
  · obtain ⟨ix, di⟩ := dnP_f di
    obtain ⟨jx, dj⟩ := dnP_f dj
    have c1 := h.bst.bd hi hj
    have c2 := h.bst.bd hi hx
    have c3 := h.bst.bd hi hy
    have c4 := h.bst.bd hx hj
    have c5 := h.bst.bd hy hj
    have c6 := h.bst.bdt hx hy hi hj
    refine ⟨by rw [had.o i j hi hj di dj ix jx, h.en i j hi hj di dj]; omega, by rw [had.c i hi di ix, hr1 i hi di]; omega, by rw [had.r j hj dj jx, hr2 j hj dj]; omega, ?_, by omega⟩
    rw [hD, had.o i j hi hj di dj ix jx, had.c i hi di ix, had.r j hj dj jx, h.en i j hi hj di dj, hr1 i hi di, hr2 j hj dj, Int.mul_comm (tw A D k x y i j)]
    exact (h.bst.twe hA hx hy exx.symm eyy.symm i j).symm
  · unfold elA
    rw [if_pos ⟨dyx, dyx⟩]
  · obtain ⟨iy, di⟩ := dnP_f di
    obtain ⟨jy, dj⟩ := dnP_f dj
    have c1 := h.bst.bdt hx hy hi hj
    have c2 := h.bst.bdt hx hy hi hy
    have c3 := h.bst.bdt hx hy hy hj
    have c4 : (bm A (cn y (cn x D)) (k + 2) i j).natAbs ≤ bndM n n A := hB.bd hi hj
    have l1 : elA (dnP x dn) (tw A D k x y) a1 i j = tw A D k x y i j := if_pos ⟨di, dj⟩
    have l2 : elA (dnP x dn) (tw A D k x y) a1 i y = tw A D k x y i y := if_pos ⟨di, dyx⟩
    have l3 : elA (dnP x dn) (tw A D k x y) a1 y j = tw A D k x y y j := if_pos ⟨dyx, dj⟩
    have l4 : elA (dnP x dn) (tw A D k x y) a1 y y = tw A D k x y y y := if_pos ⟨dyx, dyx⟩
    refine ⟨by rw [l1]; omega, by rw [l2]; omega, by rw [l3]; omega, ?_, by omega⟩
    rw [l1, l2, l3, l4, Int.mul_comm (bm A (cn y (cn x D)) (k + 2) i j)]
    exact (h.bst.twn hA hx hy exx.symm eyy.symm h0 i j).symm
  · unfold elA
    rw [if_pos ⟨di, dj⟩]
  all_goals
    have hneg : b * tw A D k x y y y < 0 := by
      rw [htb]
      have := mulself (bm A D k x y)
      have hz : bm A D k x y * bm A D k x y ≠ 0 := fun e => (Int.mul_eq_zero.1 e).elim h0 h0
      omega
    have hb0 := h.bst.b0
    have ht0 : tw A D k x y y y ≠ 0 := fun e => by rw [e, Int.mul_zero] at hneg; omega
    have hpm := pos_mul hb0 ht0
    by_cases e1 : (0 < 2 * bm A D k x y ↔ 0 < b) <;> by_cases e2 : (0 < tw A D k x y y y ↔ 0 < 2 * bm A D k x y)
    · exfalso; omega
    · rw [if_pos e1, if_neg e2]
    · rw [if_neg e1, if_pos e2]
    · exfalso; omega
end Go.Proofs.Yteanhbldhaiekaa
