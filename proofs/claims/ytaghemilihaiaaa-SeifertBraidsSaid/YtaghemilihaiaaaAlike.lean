/-
  Permutations that are alike; classes counted through a bijection. No program here.
-/
import Derived.Test.YtaghemilihaiaaaPlane
namespace Go.Proofs.Ytaghemilihaiaaa

/-- heads of the classes that have a property; a map that keeps the classes apart -/
theorem heads_le {r r' : Nat → Nat → Bool} {N : Nat} (hE : EqvB r N) {P P' : Nat → Bool} (hP : ∀ x y, x < N → y < N → r x y = true → P x = P y)
    (f : Nat → Nat) (hf : ∀ x, x < N → f x < N) (hr : ∀ x y, x < N → y < N → r (f x) (f y) = r' x y) (hp : ∀ x, x < N → P (f x) = P' x) :
    cnt (fun x => headB r' x && P' x) N ≤ cnt (fun x => headB r x && P x) N := by
  have hex : ∀ x, ∃ m, x < N → m ≤ f x ∧ r m (f x) = true ∧ headB r m = true := by
    intro x
    by_cases hx : x < N
    · obtain ⟨m, h⟩ := head_of hE (hf x hx)
      exact ⟨m, fun _ => h⟩
    · exact ⟨0, fun h => absurd h hx⟩
  obtain ⟨g, hg⟩ := Classical.axiomOfChoice hex
  refine cnt_inj g (fun x hx hA => ?_) (fun x y hx hy hA hB e => ?_)
  · obtain ⟨h1, h2, h3⟩ := hg x hx
    rw [Bool.and_eq_true] at hA ⊢
    have hlt : g x < N := Nat.lt_of_le_of_lt h1 (hf x hx)
    exact ⟨hlt, h3, by rw [hP _ _ hlt (hf x hx) h2, hp x hx]; exact hA.2⟩
  · obtain ⟨a1, a2, a3⟩ := hg x hx
    obtain ⟨b1, b2, b3⟩ := hg y hy
    rw [Bool.and_eq_true] at hA hB
    have hxl := hf x hx
    have hyl := hf y hy
    have hgl : g x < N := by omega
    rw [← e] at b2
    have hxy := hE.tr _ _ _ hxl hgl hyl (hE.sym _ _ hgl hxl a2) b2
    have hyx := hE.sym _ _ hxl hyl hxy
    rw [hr x y hx hy] at hxy
    rw [hr y x hy hx] at hyx
    rcases Nat.lt_trichotomy x y with h | h | h
    · have := headB_iff.1 hB.1 x h
      rw [hxy] at this; cases this
    · exact h
    · have := headB_iff.1 hA.1 y h
      rw [hyx] at this; cases this
theorem heads_eq {r r' : Nat → Nat → Bool} {N : Nat} (hE : EqvB r N) (hE' : EqvB r' N) {P P' : Nat → Bool} (hP : ∀ x y, x < N → y < N → r x y = true → P x = P y)
    (f g : Nat → Nat) (hf : ∀ x, x < N → f x < N) (hg : ∀ x, x < N → g x < N) (hfg : ∀ x, x < N → f (g x) = x) (hr : ∀ x y, x < N → y < N → r (f x) (f y) = r' x y) (hp : ∀ x, x < N → P (f x) = P' x) :
    cnt (fun x => headB r' x && P' x) N = cnt (fun x => headB r x && P x) N := by
  refine Nat.le_antisymm (heads_le hE hP f hf hr hp) ?_
  refine heads_le hE' (P := P') (P' := P) (fun x y hx hy h => ?_) g hg (fun x y hx hy => ?_) (fun x hx => ?_)
  · rw [← hr x y hx hy] at h
    rw [← hp x hx, ← hp y hy]
    exact hP _ _ (hf x hx) (hf y hy) h
  · rw [← hr _ _ (hg x hx) (hg y hy), hfg x hx, hfg y hy]
  · rw [← hp _ (hg x hx), hfg x hx]

theorem headB_rc {f : Nat → Nat} {N : Nat} (hP : PermB f N) {x : Nat} (hx : x < N) : headB (rc f N) x = lstB f N x := by
  rw [Bool.eq_iff_iff, headB_iff, lstB_iff]
  constructor
  · intro h g hg
    have hgN := cyc_lt hP hx hg
    rcases Nat.lt_or_ge g x with h1 | h1
    · have h2 := h g h1
      rw [show rc f N g x = true from decide_eq_true (mem_symm hP hx hg)] at h2
      cases h2
    · exact h1
  · intro h y hy
    rw [Bool.eq_false_iff]
    intro h1
    have := h y (mem_symm hP (by omega) (of_decide_eq_true h1))
    omega

/-- two permutations that are alike through a bijection -/
structure Alike (f f' : Nat → Nat) (u v : Nat → Nat) (N : Nat) : Prop where
  ul : ∀ x, x < N → u x < N
  vl : ∀ x, x < N → v x < N
  uv : ∀ x, x < N → u (v x) = x
  vu : ∀ x, x < N → v (u x) = x
  com : ∀ x, x < N → u (f' x) = f (u x)
section
variable {f f' u v : Nat → Nat} {N : Nat} (hA : Alike f f' u v N) (hP : PermB f N) (hP' : PermB f' N)
include hA hP'
theorem alike_it (k : Nat) {x : Nat} (hx : x < N) : u (it f' k x) = it f k (u x) := by
  induction k with
  | zero => rfl
  | succ k ih => show u (f' (it f' k x)) = f (it f k (u x)); rw [hA.com _ (hP'.it_lt k hx), ih]
include hP
theorem alike_rc {x y : Nat} (hx : x < N) (hy : y < N) : rc f N (u x) (u y) = rc f' N x y := by
  rw [Bool.eq_iff_iff, rc_iff hP (hA.ul x hx), rc_iff hP' hx]
  constructor
  · rintro ⟨k, h⟩
    refine ⟨k, ?_⟩
    rw [← alike_it hA hP' k hx] at h
    have := congrArg v h
    rwa [hA.vu _ (hP'.it_lt k hx), hA.vu _ hy] at this
  · rintro ⟨k, h⟩
    exact ⟨k, by rw [← alike_it hA hP' k hx, h]⟩
theorem alike_per {x : Nat} (hx : x < N) : per f N (u x) = per f' N x := by
  obtain ⟨a0, a1, a2, a3⟩ := per_spec hP (hA.ul x hx)
  obtain ⟨b0, b1, b2, b3⟩ := per_spec hP' hx
  have hb : it f (per f' N x) (u x) = u x := by rw [← alike_it hA hP' _ hx, b2]
  have ha : it f' (per f N (u x)) x = x := by
    have := alike_it hA hP' (per f N (u x)) hx
    rw [a2] at this
    have := congrArg v this
    rwa [hA.vu _ (hP'.it_lt _ hx), hA.vu _ hx] at this
  rcases Nat.lt_trichotomy (per f N (u x)) (per f' N x) with h | h | h
  · exact absurd ha (b3 _ a0 h)
  · exact h
  · exact absurd hb (a3 _ b0 h)
end
theorem per_rc {f : Nat → Nat} {N : Nat} (hP : PermB f N) {x y : Nat} (hx : x < N) (h : rc f N x y = true) : per f N x = per f N y := by
  have hm := of_decide_eq_true h
  have hy := cyc_lt hP hx hm
  have h1 : (cyc f N x).length ≤ (cyc f N y).length := (cyc_nodup hP hx).length_le_of_subset fun z hz => mem_trans hP hy (mem_symm hP hx hm) hz
  have h2 : (cyc f N y).length ≤ (cyc f N x).length := (cyc_nodup hP hy).length_le_of_subset fun z hz => mem_trans hP hx hm hz
  rw [cyc_length, cyc_length] at h1 h2
  omega
/-- as many cycles with a property -/
theorem alike_cnt {f f' u v : Nat → Nat} {N : Nat} (hA : Alike f f' u v N) (hP : PermB f N) (hP' : PermB f' N) {P P' : Nat → Bool} (hi : ∀ x, x < N → P (f x) = P x) (hp : ∀ x, x < N → P (u x) = P' x) :
    cnt (fun x => lstB f' N x && P' x) N = cnt (fun x => lstB f N x && P x) N := by
  have h := heads_eq (rc_eqv hP) (rc_eqv hP') (P := P) (P' := P') (fun x y hx _ h => (rc_const hP hi hx h).symm) u v hA.ul hA.vl hA.uv (fun x y hx hy => alike_rc hA hP hP' hx hy) hp
  rw [cnt_congr fun x hx => by rw [headB_rc hP' hx], cnt_congr (P := fun x => headB (rc f N) x && P x) fun x hx => by rw [headB_rc hP hx]] at h
  exact h
end Go.Proofs.Ytaghemilihaiaaa

