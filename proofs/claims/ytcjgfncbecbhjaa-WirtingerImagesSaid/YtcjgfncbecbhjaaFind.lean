/-
  The closure find of wirtinger.arcs.
-/
import Derived.Test.YtcjgfncbecbhjaaUf
import Derived.Test.YtcjgfncbecbhjaaLists
import Derived.Deep.RegionWith
namespace Go.Proofs.Ytcjgfncbecbhjaa
open Go.RowKit

def fnV (b4 b6 : Nat) : Value := .func (.func 75) #[] #[.pointer (some ⟨b4, 0, none⟩), .pointer (some ⟨b6, 0, none⟩)]
/-- the two captured variables and the row -/
structure UfW (w : World) (b4 b6 gp N : Nat) (p : List Int) : Prop where
  v4 : w.cell? ⟨b4, 0, none⟩ = some (.slice (some ⟨gp, 0, none⟩) N N)
  v6 : w.cell? ⟨b6, 0, none⟩ = some (fnV b4 b6)
  own : OI w gp (.slice (some ⟨gp, 0, none⟩) N N) p
  len : p.length = N
  ne4 : b4 ≠ gp
  ne6 : b6 ≠ gp
/-- only the block g may have changed -/
structure Onl (g : Nat) (w w' : World) : Prop where
  bel : Below g w w'
  size : w'.heap.size = w.heap.size
  keep : ∀ b, b ≠ g → w'.heap[b]? = w.heap[b]?
theorem Onl.refl (g : Nat) (w : World) : Onl g w w := ⟨Below.refl _ _, rfl, fun _ _ => rfl⟩
theorem Onl.trans {g : Nat} {a b c : World} (h : Onl g a b) (k : Onl g b c) : Onl g a c := ⟨h.bel.trans k.bel, k.size.trans h.size, fun x hx => (k.keep x hx).trans (h.keep x hx)⟩
theorem Onl.drew {g : Nat} {a b : World} (h : Onl g a b) : Onl g a b.drew := ⟨h.bel.drew, h.size, h.keep⟩
theorem Onl.undrew {g : Nat} {a b : World} (h : Onl g a.drew b) : Onl g a b := ⟨(Below.refl _ _).drew.trans h.bel, h.size, h.keep⟩
theorem Onl.set {g : Nat} {a b : World} (h : Onl g a b) (j : Nat) (v : Value) : Onl g a (b.setCell ⟨g, j, none⟩ v) :=
  ⟨h.bel.setCell (Nat.le_refl _) _, by rw [World.size_setCell]; exact h.size, fun x hx => by rw [Below.heap_setCell _ _ _ x hx]; exact h.keep x hx⟩

theorem UfW.drew {w : World} {b4 b6 gp N : Nat} {p : List Int} (h : UfW w b4 b6 gp N p) : UfW w.drew b4 b6 gp N p := ⟨h.v4, h.v6, h.own.drewN 1, h.len, h.ne4, h.ne6⟩
theorem UfW.at_ {w : World} {b4 b6 gp N : Nat} {p : List Int} (h : UfW w b4 b6 gp N p) {j : Nat} (hj : j < N) : w.cell? ⟨gp, j, none⟩ = some (.int .i64 (gi p j)) ∧ w.frozen? ⟨gp, j, none⟩ = false := by
  have hl := h.len
  obtain ⟨-, -, -, -, hc, hf⟩ := h.own.ints_at (by omega)
  exact ⟨hc j (by omega), hf j⟩
theorem UfW.store {w : World} {b4 b6 gp N : Nat} {p : List Int} (h : UfW w b4 b6 gp N p) (j : Nat) (y : Int) : UfW (w.setCell ⟨gp, j, none⟩ (.int .i64 y)) b4 b6 gp N (p.set j y) := by
  have h1 : OI w gp (.slice (some ⟨gp, 0, none⟩) p.length N) p := by rw [h.len]; exact h.own
  have h2 := OR.stored (k := j) h1 y
  rw [List.length_set, h.len] at h2
  refine ⟨?_, ?_, h2, by rw [List.length_set]; exact h.len, h.ne4, h.ne6⟩
  · exact (World.cell?_of_block (a := ⟨b4, 0, none⟩) (Below.heap_setCell w ⟨gp, j, none⟩ _ b4 h.ne4)).trans h.v4
  · exact (World.cell?_of_block (a := ⟨b6, 0, none⟩) (Below.heap_setCell w ⟨gp, j, none⟩ _ b6 h.ne6)).trans h.v6

set_option maxHeartbeats 8000000 in
theorem find_any (N : Nat) (R d : Nat → Nat) (b4 b6 gp : Nat) : ∀ (n : Nat) (h : Nat) (p : List Int) (w : World), d h < n → h < N → UfW w b4 b6 gp N p → UF N p R d →
    Calls Try.prog 75 #[.int .i64 h, .pointer (some ⟨b4, 0, none⟩), .pointer (some ⟨b6, 0, none⟩)] w fun e w' => e = .returned (.int .i64 (R h : Int)) ∧ ∃ p', UfW w' b4 b6 gp N p' ∧ UF N p' R d ∧ Onl gp w w' := by
  intro n
  induction n with
  | zero => intro h p w hd; omega
  | succ n ih =>
    intro h p w hd hh hU hF
    have c4 := hU.v4
    have c6 := hU.v6
    unfold fnV at c6
    obtain ⟨ch, fh⟩ := hU.at_ hh
    have HU := Lib.hid hU
    have HF := Lib.hid hF
    rw [hF.gi_ h hh] at ch
    obtain ⟨q, hq⟩ : ∃ q, gn p h = q := ⟨_, rfl⟩
    rw [hq] at ch
    have IH := Lib.hid ih
    clear hU hF ih
    by_cases hroot : q = h
    · subst hroot
      go_enter Try.func75, Try.ntmps75
      go_wp2_with fail
      have hrt : R q = q := (HF.out.root q hh).1 hq
      go_ret
      exact ⟨by rw [hrt]; rfl, p, HU.out, HF.out, Onl.refl _ _⟩
    · have hne : ¬ ((q : Int) = (h : Int)) := by omega
      have hqN : q < N := by rw [← hq]; exact HF.out.lt h hh
      have hqd : d q < n := by
        have := HF.out.fall h hh (by rw [hq]; exact hroot)
        rw [hq] at this
        omega
      have hRq : R q = R h := by rw [← hq]; exact HF.out.R_ h hh
      have HC := Lib.hid (IH.out q p w.drew hqd hqN HU.out.drew HF.out)
      rw [hRq] at HC
      clear IH hqd hqN hRq HU HF hd hq
      go_enter Try.func75, Try.ntmps75
      go_wp2_with fail
      go_region_with (go_at_call 75; refine HC.out.mono ?_; rintro e w1 ⟨rfl, p1, hU1, hF1, hO1⟩; have c41 := hU1.v4; obtain ⟨ch1, fh1⟩ := hU1.at_ hh; replace hU1 := Lib.hid hU1; replace hF1 := Lib.hid hF1; replace hO1 := Lib.hid hO1)
      all_goals
        have hl1 : h < p1.length := by rw [hU1.out.len]; exact hh
        have HU2 := Lib.hid (hU1.out.store h (R h : Int))
        have HF2 := Lib.hid (hF1.out.short hh)
        have HO2 := Lib.hid ((hO1.out.set h (.int .i64 (R h : Int))).undrew)
        have c42 := HU2.out.v4
        obtain ⟨ch2, -⟩ := HU2.out.at_ hh
        rw [gi_set' hl1, if_pos rfl] at ch2
        generalize w1.setCell ⟨gp, h, none⟩ (.int .i64 (R h : Int)) = w2 at HU2 HO2 c42 ch2 ⊢
        go_wp2_with fail
        go_ret
        exact ⟨rfl, _, HU2.out, HF2.out, HO2.out⟩
end Go.Proofs.Ytcjgfncbecbhjaa

