/-
  The signature of the surface's matrix is that of the form on letters and generators. No program here.
-/
import Derived.Test.YteanhbldhaiekaaZ37
namespace Go.Proofs.Yteanhbldhaiekaa

theorem lsS_isG (ws : List Int) (g : Nat) : ∀ j, 0 ≤ lsS ws g j → isG ws g (lsS ws g j).toNat
  | 0 => fun h => absurd h (by show ¬ (0 : Int) ≤ -1; omega)
  | j + 1 => by
    rw [lsS]
    split
    · rename_i hj; intro _; simpa using hj
    · exact lsS_isG ws g j
theorem nodup_gL {ds : List Lp} (h : ds.Nodup) {i j : Nat} (hi : i < ds.length) (hj : j < ds.length) (e : gL ds i = gL ds j) : i = j := by
  have e1 : ∀ k (hk : k < ds.length), gL ds k = ds[k] := fun k hk => by unfold gL; simp [hk]
  rw [e1 i hi, e1 j hj] at e
  rcases Nat.lt_trichotomy i j with h1 | h1 | h1
  · exact absurd e (List.pairwise_iff_getElem.1 h i j hi hj h1)
  · exact h1
  · exact absurd e.symm (List.pairwise_iff_getElem.1 h j i hj hi h1)
def laN (ws : List Int) (g : Nat) : Nat := (lsS ws g ws.length).toNat
def lvF (d : Lp) : Nat → Int := fun k => (if k = d.p then 1 else 0) - (if k = d.q then 1 else 0)
def leF (ws : List Int) (g : Nat) : Nat → Int := fun k => if k = laN ws g then 1 else 0
theorem lin_add (n : Nat) (σ : Nat → Nat) (c : Nat → Int) (v v' : Nat → Int) : (sI n fun i => (v (σ i) + v' (σ i)) * c i) = (sI n fun i => v (σ i) * c i) + sI n fun i => v' (σ i) * c i := by
  rw [← sI_add]
  exact sI_congr fun i _ => Int.add_mul _ _ _
theorem lin_mul (n : Nat) (σ : Nat → Nat) (c : Nat → Int) (t : Int) (v : Nat → Int) : (sI n fun i => (t * v (σ i)) * c i) = t * sI n fun i => v (σ i) * c i := by
  rw [← sI_mul]
  exact sI_congr fun i _ => Int.mul_assoc _ _ _
theorem sS_lin (ws : List Int) (L : Nat) (c : Nat → Int) (V : Nat → Nat → Int) (h : Nat) : sS ws (fun k => sI L fun i => c i * V i k) h = sI L fun i => c i * sS ws (V i) h := by
  rw [sS_sum, sI_congr (g := fun k => sI L fun i => if gN ws k = h then c i * V i k else 0) fun k _ => by
    split
    · rfl
    · rw [sI_zero], sI_swap]
  refine sI_congr fun i _ => ?_
  rw [sS_sum, ← sI_mul]
  exact sI_congr fun k _ => by
    split
    · rfl
    · rw [Int.mul_zero]
section
variable {ws : List Int} {m : Nat} (hO : Occ ws m) (hW : WdN (m + 1) ws)
include hO in
theorem la_ok {g : Nat} (h1 : 1 ≤ g) (h2 : g ≤ m) : laN ws g < ws.length ∧ gN ws (laN ws g) = g := by
  have h := hO g h1 h2
  have hl := lsS_lt ws g ws.length
  refine ⟨by unfold laN; omega, isG_gN (lsS_isG ws g ws.length h)⟩
theorem wd_gN (hW : WdN (m + 1) ws) {k : Nat} (hk : k < ws.length) : 1 ≤ gN ws k ∧ gN ws k ≤ m := by
  have := hW ws[k] (List.getElem_mem hk)
  unfold gN
  rw [gi_lt hk]
  omega
include hO hW in
theorem lp_count : (lpS ws m).length + m = ws.length := by
  rw [lpS_count ws m hO, cB_congr (g := fun _ => true) fun k hk => decide_eq_true (wd_gN hW hk), cB_yes]
theorem sS_lv {d : Lp} (hd : d ∈ lpS ws m) (h : Nat) : sS ws (lvF d) h = 0 := by
  obtain ⟨-, -, x1, x2, x3, x4⟩ := lpS_mem ws m d hd
  have a1 := isG_gN x3
  have a2 := isG_gN x4
  rw [sS_sum, sI_two (p := d.p) (q := d.q) _ (by omega) x2 (by omega) fun j _ h1 h2 => by
    unfold lvF
    rw [if_neg h1, if_neg h2]
    split <;> rfl]
  unfold lvF
  rw [a1, a2, if_pos rfl, if_pos rfl, if_neg (show ¬ d.p = d.q by omega), if_neg (show ¬ d.q = d.p by omega)]
  split <;> omega
include hO in
theorem sS_le {g : Nat} (h1 : 1 ≤ g) (h2 : g ≤ m) (h : Nat) : sS ws (leF ws g) h = if g = h then 1 else 0 := by
  obtain ⟨l1, l2⟩ := la_ok hO h1 h2
  rw [sS_sum, sI_one (k := laN ws g) _ l1 fun j _ hj => by
    unfold leF
    rw [if_neg hj]
    split <;> rfl, l2]
  unfold leF
  rw [if_pos rfl]
theorem bil_lv {x y : Lp} (hx : x ∈ lpS ws m) (hy : y ∈ lpS ws m) : bil ws.length (Bm ws) (lvF x) (lvF y) = Glp ws x y := by
  obtain ⟨-, -, x1, x2, -⟩ := lpS_mem ws m x hx
  obtain ⟨-, -, y1, y2, -⟩ := lpS_mem ws m y hy
  have e : ∀ k, (sI ws.length fun l => Bm ws k l * lvF y l) = Bm ws k y.p - Bm ws k y.q := fun k => by
    rw [sI_two (p := y.p) (q := y.q) _ (by omega) y2 (by omega) fun j _ h1 h2 => by unfold lvF; rw [if_neg h1, if_neg h2]; simp]
    unfold lvF
    rw [if_pos rfl, if_pos rfl, if_neg (show ¬ y.p = y.q by omega), if_neg (show ¬ y.q = y.p by omega)]
    omega
  unfold bil
  rw [sI_two (p := x.p) (q := x.q) _ (by omega) x2 (by omega) fun j _ h1 h2 => by unfold lvF; rw [if_neg h1, if_neg h2]; simp, e, e]
  unfold lvF Glp
  rw [if_pos rfl, if_pos rfl, if_neg (show ¬ x.p = x.q by omega), if_neg (show ¬ x.q = x.p by omega)]
  omega
theorem Bm_sym (ws : List Int) : Sym ws.length (Bm ws) := fun i j _ _ => Bm_comm ws i j
include hO hW in
/-- THE LINK -/
theorem sgb_of_mat {A : Mx} {p q : Nat} (hA : ∀ i j, i < (lpS ws m).length → j < (lpS ws m).length → A i j = elS ws (gL (lpS ws m) i) (gL (lpS ws m) j) + elS ws (gL (lpS ws m) j) (gL (lpS ws m) i)) (h : Inr (lpS ws m).length A p q) : SgB (m + 1) ws ((p : Int) - q) := by
  have hcount := lp_count hO hW
  obtain ⟨ds, hds⟩ : ∃ ds, lpS ws m = ds := ⟨_, rfl⟩
  have hmem : ∀ i, i < ds.length → gL ds i ∈ lpS ws m := fun i hi => by rw [hds]; exact gL_mem hi
  rw [hds] at hcount hA h
  obtain ⟨N, hN⟩ : ∃ N, ws.length = N := ⟨_, rfl⟩
  obtain ⟨L, hL⟩ : ∃ L, ds.length = L := ⟨_, rfl⟩
  rw [hN, hL] at hcount
  rw [hL] at hA h hmem
  let lv : Nat → Nat → Int := fun i => lvF (gL ds i)
  let le : Nat → Nat → Int := fun g => leF ws (g + 1)
  let c1 : Nat → Nat → Int := fun g i => bil N (Bm ws) (lv i) (le g)
  let c2 : Nat → Nat → Int := fun g i => bil N (Bm ws) (le i) (le g)
  let xV : (Nat → Int) → Nat → Int := fun v k => (sI L fun i => v i * lv i k) + 2 * sI m fun g => v (L + g) * le g k
  let lam : (Nat → Int) → Nat → Int := fun v g => v (L + m + g) - (sI L fun i => v i * c1 g i) - sI m fun i => v (L + i) * c2 g i
  let φ : (Nat → Int) → Nat → Int := fun v i => if i < N then xV v i else lam v (i - N)
  have f1 : ∀ v i, i < N → φ v i = xV v i := fun v i hi => if_pos hi
  have f2 : ∀ v g, φ v (N + g) = lam v g := fun v g => by show (if _ then _ else _) = _; rw [if_neg (by omega), Nat.add_sub_cancel_left]
  -- the sums over a generator
  have hsum : ∀ v g, g < m → sS ws (xV v) (g + 1) = 2 * v (L + g) := fun v g hg => by
    show sS ws (fun k => (sI L fun i => v i * lv i k) + 2 * sI m fun g => v (L + g) * le g k) (g + 1) = _
    rw [sS_add ws (fun k => sI L fun i => v i * lv i k) (fun k => 2 * sI m fun g => v (L + g) * le g k), sS_lin ws L v lv, sS_mul ws 2 (fun k => sI m fun g => v (L + g) * le g k), sS_lin ws m (fun g => v (L + g)) le,
      sI_all0 (n := L) fun i hi => by rw [sS_lv (hmem i hi), Int.mul_zero], sI_one (k := g) _ hg fun j hj hne => by rw [sS_le hO (by omega) (by omega), if_neg (by omega), Int.mul_zero], sS_le hO (by omega) (by omega), if_pos rfl, Int.mul_one, Int.zero_add]
  have hq1 : QF L fun v => bil L A v v := fun v v' hv => bil_congr (fun _ _ _ _ => rfl) hv hv
  have hq2 := qB_QF (m + 1) ws
  rw [hN, Nat.add_sub_cancel, show N + m = L + 2 * m by omega] at hq2
  refine ⟨p + m, q + m, ?_, by omega⟩
  rw [hN, Nat.add_sub_cancel, show N + m = L + 2 * m by omega]
  refine (sgf_of_inr h).hyp (φ := φ) (k := 4) ⟨fun v v' i => ?_, fun t v i => ?_⟩ (fun v hv i hi => ?_) hq1 hq2 (by decide) fun v => ?_
  · show (if i < N then (sI L fun j => (v j + v' j) * lv j i) + 2 * (sI m fun g => (v (L + g) + v' (L + g)) * le g i) else v (L + m + (i - N)) + v' (L + m + (i - N)) - (sI L fun j => (v j + v' j) * c1 (i - N) j) - sI m fun j => (v (L + j) + v' (L + j)) * c2 (i - N) j) =
      (if i < N then xV v i else lam v (i - N)) + (if i < N then xV v' i else lam v' (i - N))
    rw [lin_add L (fun j => j) (fun j => lv j i), lin_add m (fun g => L + g) (fun g => le g i), lin_add L (fun j => j) (c1 (i - N)), lin_add m (fun j => L + j) (c2 (i - N))]
    split
    · show _ = ((sI L fun j => v j * lv j i) + 2 * sI m fun g => v (L + g) * le g i) + ((sI L fun j => v' j * lv j i) + 2 * sI m fun g => v' (L + g) * le g i)
      omega
    · show _ = (v (L + m + (i - N)) - (sI L fun j => v j * c1 (i - N) j) - sI m fun j => v (L + j) * c2 (i - N) j) + (v' (L + m + (i - N)) - (sI L fun j => v' j * c1 (i - N) j) - sI m fun j => v' (L + j) * c2 (i - N) j)
      omega
  · show (if i < N then (sI L fun j => (t * v j) * lv j i) + 2 * (sI m fun g => (t * v (L + g)) * le g i) else t * v (L + m + (i - N)) - (sI L fun j => (t * v j) * c1 (i - N) j) - sI m fun j => (t * v (L + j)) * c2 (i - N) j) =
      t * (if i < N then xV v i else lam v (i - N))
    rw [lin_mul L (fun j => j) (fun j => lv j i), lin_mul m (fun g => L + g) (fun g => le g i), lin_mul L (fun j => j) (c1 (i - N)), lin_mul m (fun j => L + j) (c2 (i - N))]
    split
    · show _ = t * ((sI L fun j => v j * lv j i) + 2 * sI m fun g => v (L + g) * le g i)
      grind
    · show _ = t * (v (L + m + (i - N)) - (sI L fun j => v j * c1 (i - N) j) - sI m fun j => v (L + j) * c2 (i - N) j)
      grind
  · have hx : ∀ k, k < N → xV v k = 0 := fun k hk => by rw [← f1 v k hk]; exact hv k (by omega)
    have h2 : ∀ g, g < m → v (L + g) = 0 := fun g hg => by
      have e := hsum v g hg
      rw [sS_zero (g + 1) fun k hk => hx k (by omega)] at e
      omega
    have h3 : ∀ k, k < N → (sI L fun i => v i * lv i k) = 0 := fun k hk => by
      have e : (sI L fun i => v i * lv i k) + 2 * (sI m fun g => v (L + g) * le g k) = 0 := hx k hk
      rw [sI_all0 (n := m) fun g hg => by rw [h2 g hg, Int.zero_mul]] at e
      omega
    have h1 : ∀ P i, i < L → (gL ds i).p < P → v i = 0 := fun P => by
      induction P with
      | zero => intro i _ hp; omega
      | succ P ih =>
        intro i hi hp
        by_cases hlt : (gL ds i).p < P
        · exact ih i hi hlt
        · obtain ⟨-, -, b1, b2, b3, -⟩ := lpS_mem ws m _ (hmem i hi)
          have e := h3 (gL ds i).p (by omega)
          rw [sI_one (k := i) _ hi fun j hj hne => ?_] at e
          · have e2 : lv i (gL ds i).p = 1 := by show lvF (gL ds i) (gL ds i).p = 1; unfold lvF; rw [if_pos rfl, if_neg (by omega)]; rfl
            rw [e2, Int.mul_one] at e
            exact e
          · obtain ⟨-, -, d1, d2, d3, d4⟩ := lpS_mem ws m _ (hmem j hj)
            by_cases k1 : (gL ds i).p = (gL ds j).p
            · have hgg : (gL ds i).g = (gL ds j).g := by
                have := isG_gN b3
                have t2 := isG_gN d3
                rw [k1] at this
                omega
              have := lp_same (hmem i hi) (hmem j hj) hgg (.inl k1)
              exact absurd (nodup_gL (hds ▸ lpS_nodup ws m) (by omega) (by omega) this).symm hne
            · by_cases k2 : (gL ds i).p = (gL ds j).q
              · rw [ih j hj (by omega), Int.zero_mul]
              · have : lv j (gL ds i).p = 0 := by show lvF (gL ds j) (gL ds i).p = 0; unfold lvF; rw [if_neg k1, if_neg k2]; rfl
                rw [this, Int.mul_zero]
    have h4 : ∀ i, i < L → v i = 0 := fun i hi => h1 _ i hi (Nat.lt_succ_self _)
    by_cases e1 : i < L
    · exact h4 i e1
    · by_cases e2 : i < L + m
      · have := h2 (i - L) (by omega)
        rwa [show L + (i - L) = i by omega] at this
      · obtain ⟨g, rfl⟩ : ∃ g, i = L + m + g := ⟨i - (L + m), by omega⟩
        have e3 : lam v g = 0 := by rw [← f2]; exact hv (N + g) (by omega)
        have e4 : v (L + m + g) - (sI L fun i => v i * c1 g i) - (sI m fun i => v (L + i) * c2 g i) = 0 := e3
        rw [sI_all0 (n := L) fun i hi => by rw [h4 i hi, Int.zero_mul], sI_all0 (n := m) fun i hi => by rw [h2 i hi, Int.zero_mul]] at e4
        omega
  · show qh ws (φ v) (lB (m + 1) ws.length (φ v)) = _
    rw [qh_bil, hN]
    let a : Nat → Int := fun k => sI L fun i => v i * lv i k
    let b : Nat → Int := fun k => sI m fun g => v (L + g) * le g k
    have hS : Sym N (Bm ws) := hN ▸ Bm_sym ws
    have b1 : bil N (Bm ws) (φ v) (φ v) = bil N (Bm ws) a a + 4 * bil N (Bm ws) a b + 4 * bil N (Bm ws) b b := by
      rw [bil_congr (v' := fun k => a k + 2 * b k) (w' := fun k => a k + 2 * b k) (fun _ _ _ _ => rfl) (fun k hk => f1 v k hk) (fun k hk => f1 v k hk), bil_add_l, bil_add_r hS, bil_add_r hS, bil_comm hS b a]
      omega
    have b2 : bil N (Bm ws) a a = bil L A v v := by
      show bil N (Bm ws) (fun k => sI L fun i => v i * lv i k) a = _
      rw [bil_l]
      show _ = sI L fun i => v i * sI L fun j => A i j * v j
      refine sI_congr fun i hi => ?_
      show v i * bil N (Bm ws) (lv i) (fun k => sI L fun j => v j * lv j k) = _
      rw [bil_r]
      congr 1
      refine sI_congr fun j hj => ?_
      rw [← hN, bil_lv (hmem i hi) (hmem j hj), gm_el (hmem i hi) (hmem j hj), hA i j hi hj, Int.mul_comm]
    have b3 : bil N (Bm ws) a b = sI m fun g => v (L + g) * sI L fun i => v i * c1 g i := by
      show bil N (Bm ws) a (fun k => sI m fun g => v (L + g) * le g k) = _
      rw [bil_r (fun g => v (L + g)) le]
      refine sI_congr fun g _ => ?_
      show v (L + g) * bil N (Bm ws) (fun k => sI L fun i => v i * lv i k) (le g) = _
      rw [bil_l]
    have b4 : bil N (Bm ws) b b = sI m fun g => v (L + g) * sI m fun i => v (L + i) * c2 g i := by
      show bil N (Bm ws) b (fun k => sI m fun g => v (L + g) * le g k) = _
      rw [bil_r (fun g => v (L + g)) le]
      refine sI_congr fun g _ => ?_
      show v (L + g) * bil N (Bm ws) (fun k => sI m fun i => v (L + i) * le i k) (le g) = _
      rw [bil_l (fun i => v (L + i)) le]
    have b5 : (sI N fun k => φ v k * lB (m + 1) N (φ v) (gN ws k)) = sI m fun g => lam v g * (2 * v (L + g)) := by
      have e1 : ∀ k, k < N → φ v k * lB (m + 1) N (φ v) (gN ws k) = sI m fun g => lam v g * (if gN ws k = g + 1 then xV v k else 0) := fun k hk => by
        obtain ⟨k1, k2⟩ := wd_gN hW (k := k) (by omega)
        rw [sI_one (k := gN ws k - 1) _ (by omega) fun j _ hj => by rw [if_neg (by omega), Int.mul_zero], if_pos (by omega), lB_in _ k1 (by omega), f1 v k hk, show N + gN ws k - 1 = N + (gN ws k - 1) by omega, f2, Int.mul_comm]
      rw [sI_congr e1, sI_swap]
      refine sI_congr fun g hg => ?_
      rw [sI_mul, ← hsum v g hg, sS_sum, hN]
    rw [b1, b2, b3, b4, b5]
    have b6 : (sI m fun g => lam v g * (2 * v (L + g))) = (2 * sI m fun g => v (L + g) * v (L + m + g)) - (2 * sI m fun g => v (L + g) * sI L fun i => v i * c1 g i) - 2 * sI m fun g => v (L + g) * sI m fun i => v (L + i) * c2 g i := by
      rw [← sI_mul, ← sI_mul, ← sI_mul, ← sI_sub, ← sI_sub]
      refine sI_congr fun g _ => ?_
      show (v (L + m + g) - (sI L fun i => v i * c1 g i) - (sI m fun i => v (L + i) * c2 g i)) * (2 * v (L + g)) = _
      grind
    rw [b6]
    omega
end
end Go.Proofs.Yteanhbldhaiekaa
