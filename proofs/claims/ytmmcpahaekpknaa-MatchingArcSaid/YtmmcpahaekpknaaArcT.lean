/-
  The matching with one more arc: as a list; joining its points gives the old one back. No program here.
-/
import Derived.Test.YtmmcpahaekpknaaJoinT
namespace Go.Proofs.Ytmmcpahaekpknaa

def shA (p : Nat) (v : Int) : Int := if (p : Int) ≤ v then v + 2 else v
def arcL (xs : List Int) (p : Nat) : List Int := (List.range (xs.length + 2)).map fun i => if i = p then (p : Int) + 1 else if i = p + 1 then (p : Int) else shA p (gi xs (dem p i))

theorem arcL_length (xs : List Int) (p : Nat) : (arcL xs p).length = xs.length + 2 := by simp [arcL]
theorem gi_arcL {xs : List Int} {p i : Nat} (h : i < xs.length + 2) : gi (arcL xs p) i = if i = p then (p : Int) + 1 else if i = p + 1 then (p : Int) else shA p (gi xs (dem p i)) := by
  unfold arcL
  rw [gi, List.getD_eq_getElem?_getD, List.getElem?_map, List.getElem?_range h]
  rfl

theorem shA_emb {p : Nat} {v : Int} (h : 0 ≤ v) : shA p v = (emb p v.toNat : Nat) := by unfold shA emb; split <;> split <;> omega
theorem shA_nat (p k : Nat) : shA p k = (emb p k : Nat) := by have := shA_emb (p := p) (v := k) (by omega); simpa using this
theorem gi_arcL_emb {xs : List Int} {p k : Nat} (_hp : p ≤ xs.length) (h : k < xs.length) : gi (arcL xs p) (emb p k) = shA p (gi xs k) := by
  obtain ⟨e0, e1⟩ := emb_ne p k
  rw [gi_arcL (by unfold emb; split <;> omega), if_neg e0, if_neg e1, dem_emb]

section
variable {a : List Int} (ha : IsM a) {p : Nat} (hp : p ≤ a.length)
include ha hp

theorem arc_gn : (gi (arcL a p) p = (p : Int) + 1) ∧ (gi (arcL a p) (p + 1) = p) ∧ ∀ k, k < a.length → gi (arcL a p) (emb p k) = (emb p (gn a k) : Nat) := by
  refine ⟨by rw [gi_arcL (by omega), if_pos rfl], by rw [gi_arcL (by omega), if_neg (by omega), if_pos rfl], fun k hk => ?_⟩
  rw [gi_arcL_emb hp hk, (isM_gn ha hk).2.2.2, shA_nat]

theorem arcL_isM (h46 : a.length ≤ 46) : IsM (arcL a p) := by
  obtain ⟨g1, g2, g3⟩ := arc_gn ha hp
  have hl := arcL_length a p
  have h0 := ha.1
  refine ⟨by rw [hl]; omega, by rw [hl]; omega, ?_, ?_⟩
  · intro i hi
    rw [hl] at hi ⊢
    by_cases e0 : i = p
    · subst e0
      rw [g1]
      refine ⟨by omega, by omega, by omega, ?_⟩
      have : ((i : Int) + 1).toNat = i + 1 := by omega
      rw [this, g2]
    by_cases e1 : i = p + 1
    · subst e1
      rw [g2]
      refine ⟨by omega, by omega, by omega, ?_⟩
      rw [Int.toNat_natCast, g1]
      omega
    · have hd := dem_lt (n := a.length + 2) (by omega) hi e0 e1
      have hd : dem p i < a.length := by omega
      have he := emb_dem e0 e1
      obtain ⟨b1, b2, b3, -⟩ := isM_gn ha hd
      have hg := g3 _ hd
      rw [he] at hg
      have hel : emb p (gn a (dem p i)) < a.length + 2 := by unfold emb; split <;> omega
      rw [hg]
      refine ⟨by omega, by omega, ?_, ?_⟩
      · intro e
        have e : emb p (gn a (dem p i)) = i := by omega
        have := congrArg (dem p) e
        rw [dem_emb] at this
        exact b2 this
      · rw [Int.toNat_natCast, g3 _ b1, b3, he]
  · intro q hq i hi h1 h2
    rw [hl] at hq
    by_cases q0 : q = p
    · subst q0; rw [g1] at h1; omega
    by_cases q1 : q = p + 1
    · subst q1; rw [g2] at h2; omega
    have hd : dem p q < a.length := by have := dem_lt (n := a.length + 2) (by omega) hq q0 q1; omega
    have he := emb_dem q0 q1
    have hg := g3 _ hd
    rw [he] at hg
    rw [hg] at h1 h2
    have hlt : gn a (dem p q) < dem p q := by
      rw [← @emb_mono p, he]
      omega
    by_cases i0 : i = p
    · subst i0
      rw [g1]
      omega
    by_cases i1 : i = p + 1
    · subst i1
      rw [g2]
      omega
    have hdi : dem p i < a.length := by have := dem_lt (n := a.length + 2) (by omega) (show i < a.length + 2 by omega) i0 i1; omega
    have hei := emb_dem i0 i1
    have := nc_in ha hd hlt (i := dem p i) (by rw [← @emb_mono p, hei]; omega) (by rw [dem_mono i0 i1 q0 q1]; exact hi)
    have hgi := g3 _ hdi
    rw [hei] at hgi
    rw [hgi]
    have h4 : emb p (gn a (dem p i)) < emb p (dem p q) := emb_mono.2 this.2
    rw [he] at h4
    omega

theorem join_arc : joinL (arcL a p) p = a ∧ circ (arcL a p) p = 1 := by
  obtain ⟨g1, g2, g3⟩ := arc_gn ha hp
  refine ⟨?_, by unfold circ; rw [if_pos g1]⟩
  have hl := arcL_length a p
  apply ext_gi
  · rw [joinL_length, hl]; omega
  · intro k hk
    rw [joinL_length, hl] at hk
    rw [gi_joinL (by rw [hl]; omega)]
    have hpart : part (arcL a p) p = arcL a p := by unfold part; rw [if_pos g1]
    have e : (if k < p then k else k + 2) = emb p k := rfl
    rw [hpart, e, g3 k (by omega), (isM_gn ha (show k < a.length by omega)).2.2.2]
    unfold shI emb
    split <;> split <;> omega
end
end Go.Proofs.Ytmmcpahaekpknaa
