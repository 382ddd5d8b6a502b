/-
  The contracts of overOut and of the circles' successor.
-/
import Derived.Test.YtaghemilihaiaaaNumM
import Derived.Test.YtaghemilihaiaaaLists
import Derived.IntWalk
namespace Go.Proofs.Ytaghemilihaiaaa
open Go.RowKit

set_option maxHeartbeats 1000000 in
theorem over_any (A1 A2 : Option Addr) (c1 c2 ml : Nat) (sg : List Int) (L a : Int) (c : Nat) (w : World) (S : Nat → Prop) (hx : RI w S A1 sg) (hS : ∀ b, S b → b < w.heap.size) (hs : SgM sg) (hc : c < sg.length) (hl : sg.length ≤ 100000) (ha : a = c) :
    Calls Try.prog 43 #[.agg #[.slice A1 sg.length c1, .slice A2 ml c2, .int .i64 L], .int .i64 a] w fun e w' => e = .returned (.int .i64 (overN sg c : Int)) ∧ Below w.heap.size w w' := by
  subst ha
  have HB := Lib.hid ((Below.refl w.heap.size w).alloc (Nat.le_refl _) (.cells #[.slice A1 sg.length c1, .slice A2 ml c2, .int .i64 L] 24))
  obtain ⟨b, off, rfl, hbs, hcl⟩ := hx.at_ hc
  have k1 := hcl c hc
  have hbs := hS b hbs
  rcases hs c hc with e | e
  · have ho : overN sg c = 4 * c + 1 := if_pos e
    have HO := Lib.hid ho
    rw [e] at k1
    clear ho e hcl hx hS hs
    go_enter Try.func43, Try.ntmps43
    go_wp2_with fail
    go_ret
    exact ⟨ret_int (by rw [HO.out]; omega), HB.out⟩
  · have ho : overN sg c = 4 * c + 3 := if_neg (by omega)
    have HO := Lib.hid ho
    rw [e] at k1
    clear ho e hcl hx hS hs
    go_enter Try.func43, Try.ntmps43
    go_wp2_with fail
    go_ret
    exact ⟨ret_int (by rw [HO.out]; omega), HB.out⟩

/-- the successor, a closure over the box bd -/
theorem nextC {w : World} {bd : Nat} {A1 A2 : Option Addr} {c1 c2 : Nat} {sg mt : List Int} {L : Int} (h : DBox w bd A1 A2 c1 c2 sg mt L) (hd : IsD sg mt L) {g : Nat} (hg : g < mt.length) (ho : outB sg g = true) :
    Calls Try.prog 62 #[.int .i64 g, .pointer (some ⟨bd, 0, none⟩)] w fun e w' => e = .returned (.int .i64 (nxC sg mt g : Int)) ∧ Below w.heap.size w w' := by
  have k0 := h.c0
  have k1 := h.c1
  have k2 := h.c2
  obtain ⟨hg1, hg2, -, -⟩ := hd.2.2.2.2.2.1.gn hg
  have hn := hd.2.1
  have hl := hd.1
  have HS := Lib.hid hd.2.2.2.2.1
  have HR := Lib.hid h.rs
  obtain ⟨b, off, rfl, -, hc⟩ := h.rm.at_ hg
  have k3 := hc g hg
  rw [hg1] at k3
  have hx : nxC sg mt g = nxR sg mt g := if_pos ho
  obtain ⟨m, hm⟩ : ∃ m, gn mt g = m := ⟨_, rfl⟩
  obtain ⟨mq, hmq⟩ : ∃ mq, m / 4 = mq := ⟨_, rfl⟩
  rw [hm] at k3 hg2
  have q1 : ((m : Nat) : Int).tdiv 4 = (mq : Int) := by rw [← hmq]; exact Int.ofNat_tdiv m 4
  have q1e : (m : Int) / 4 = (mq : Int) := by omega
  have hmq1 : mq < sg.length := by omega
  have hmqb : mq ≤ 64 := by omega
  have hlb : sg.length ≤ 100000 := by omega
  by_cases h0 : m % 4 = 0
  · have e : nxC sg mt g = overN sg mq := by rw [hx]; unfold nxR; rw [hm, if_pos h0, hmq]
    have HE := Lib.hid e
    have q2 : ((m : Int) % 4 == 0) = true := by rw [beq_iff_eq]; omega
    clear hc hx hm hmq hn hd h hg1 e h0
    go_enter Try.func62, Try.ntmps62
    go_wp2_with fail
    refine (over_any A1 _ c1 c2 mt.length sg L _ mq _ (· < w.heap.size) HR.out (fun _ h => h) HS.out hmq1 hlb rfl).mono ?_
    rintro e w1 ⟨rfl, hb⟩
    go_wp2_with fail
    go_ret
    exact ⟨ret_int (by rw [HE.out]), hb⟩
  · have e : nxC sg mt g = mq * 4 + 2 := by rw [hx]; unfold nxR; rw [hm, if_neg h0, hmq]
    have HE := Lib.hid e
    have q2 : ((m : Int) % 4 == 0) = false := by rw [beq_eq_false_iff_ne]; omega
    clear hc hx hm hmq hn hd h hg1 e h0
    go_enter Try.func62, Try.ntmps62
    go_wp2_with fail
    go_ret
    exact ⟨ret_int (by rw [HE.out]; omega), Below.refl _ _⟩
end Go.Proofs.Ytaghemilihaiaaa

