/-
  The contracts of connect.outgoing, end and cross.
-/
import Derived.Test.YtaghemilihaiaaaSumM
import Derived.Test.YtaghemilihaiaaaOut
import Derived.Test.YtaghemilihaiaaaLists
import Derived.BigQuiet
import Derived.BigRegion
namespace Go.Proofs.Ytaghemilihaiaaa
open Go.RowKit

set_option maxHeartbeats 400000 in
theorem coutgoing_any (A1 A2 : Option Addr) (c1 c2 ml : Nat) (sg : List Int) (L a : Int) (h : Nat) (w : World) (S : Nat → Prop) (hx : RI w S A1 sg) (hS : ∀ b, S b → b < w.heap.size) (hm : sg.length ≤ 1099511627776) (ha : a = h) (hh : h < 4 * sg.length) :
    Calls Try.prog 71 #[.agg #[.slice A1 sg.length c1, .slice A2 ml c2, .int .i64 L], .int .i64 a] w fun e w' => e = .returned (.bool (outB sg h)) ∧ Below w.heap.size w w' := by
  subst ha
  have hb : Below w.heap.size w (w.alloc (.cells #[.slice A1 sg.length c1, .slice A2 ml c2, .int .i64 L] 24)) := (Below.refl _ _).alloc (Nat.le_refl _) _
  have HB := Lib.hid hb
  clear hb
  obtain ⟨b, off, rfl, hbs, hc⟩ := hx.at_ (k := h / 4) (by omega)
  have k1 := hc (h / 4) (by omega)
  have hbs := hS b hbs
  clear hc hx hS
  have hcase : h % 4 = 0 ∨ h % 4 = 1 ∨ h % 4 = 2 ∨ h % 4 = 3 := by omega
  rcases hcase with hr | hr | hr | hr
  · have e : outB sg h = false := by unfold outB; rw [if_neg (by omega), if_neg (by omega), if_neg (by omega)]
    have gm : (h : Int) % 4 = 0 := by omega
    have E := Lib.hid e
    clear e hr
    go_enter Try.func71, Try.ntmps71
    go_wp2_with fail
    go_ret
    exact ⟨ret_bool E.out.symm, HB.out⟩
  · by_cases hg : gi sg (h / 4) = 1
    · have e : outB sg h = true := by unfold outB; rw [if_pos hr, hg]; rfl
      have gm : (h : Int) % 4 = 1 := by omega
      have E := Lib.hid e
      clear e hr
      go_enter Try.func71, Try.ntmps71
      go_wp2_with fail
      go_ret
      exact ⟨ret_bool E.out.symm, HB.out⟩
    · have e : outB sg h = false := by unfold outB; rw [if_pos hr]; exact beq_eq_false_iff_ne.2 hg
      have gm : (h : Int) % 4 = 1 := by omega
      have E := Lib.hid e
      clear e hr
      go_enter Try.func71, Try.ntmps71
      go_wp2_with fail
      go_ret
      exact ⟨ret_bool ((beq_eq_false_iff_ne.2 hg).trans E.out.symm), HB.out⟩
  · have e : outB sg h = true := by unfold outB; rw [if_neg (by omega), if_pos hr]
    have gm : (h : Int) % 4 = 2 := by omega
    have E := Lib.hid e
    clear e hr
    go_enter Try.func71, Try.ntmps71
    go_wp2_with fail
    go_ret
    exact ⟨ret_bool E.out.symm, HB.out⟩
  · by_cases hg : gi sg (h / 4) = -1
    · have e : outB sg h = true := by unfold outB; rw [if_neg (by omega), if_neg (by omega), if_pos hr, hg]; rfl
      have gm : (h : Int) % 4 = 3 := by omega
      have E := Lib.hid e
      clear e hr
      go_enter Try.func71, Try.ntmps71
      go_wp2_with fail
      go_ret
      exact ⟨ret_bool E.out.symm, HB.out⟩
    · have e : outB sg h = false := by unfold outB; rw [if_neg (by omega), if_neg (by omega), if_pos hr]; exact beq_eq_false_iff_ne.2 hg
      have gm : (h : Int) % 4 = 3 := by omega
      have E := Lib.hid e
      clear e hr
      go_enter Try.func71, Try.ntmps71
      go_wp2_with fail
      go_ret
      exact ⟨ret_bool ((beq_eq_false_iff_ne.2 hg).trans E.out.symm), HB.out⟩
/-- an end of a diagram: an outgoing half-edge, or -1 while there is a loop -/
def EndP (sg mt : List Int) (L x : Int) : Prop := (x = -1 ∧ 0 < L) ∨ ∃ h : Nat, x = h ∧ h < mt.length ∧ outB sg h = true
set_option maxHeartbeats 2000000 in
theorem end_yes (A1 A2 : Option Addr) (c1 c2 : Nat) (sg mt : List Int) (L x : Int) (w : World) (S : Nat → Prop) (hx : RI w S A1 sg) (hy : RI w S A2 mt) (hS : ∀ b, S b → b < w.heap.size) (hn : mt.length = 4 * sg.length) (h64 : sg.length ≤ 64) (he : EndP sg mt L x) :
    Calls Try.prog 51 #[.agg #[.slice A1 sg.length c1, .slice A2 mt.length c2, .int .i64 L], .int .i64 x] w fun e w' => e = .returned (.bool true) ∧ Below w.heap.size w w' := by
  have HD := Lib.hid (DBox.start (c1 := c1) (c2 := c2) (L := L) S hx hy hS)
  have hb : Below w.heap.size w (w.alloc (.cells #[.slice A1 sg.length c1, .slice A2 mt.length c2, .int .i64 L] 24)) := (Below.refl _ _).alloc (Nat.le_refl _) _
  have HB := Lib.hid hb
  have HN := Lib.hid hn
  clear hb hx hy hS hn
  rcases he with ⟨rfl, h0⟩ | ⟨h, rfl, h1, h2⟩
  · go_enter Try.func51, Try.ntmps51
    go_wp2_with fail
    go_ret
    exact ⟨rfl, HB.out⟩
  · have z1 : ((h : Int) == -1) = false := by rw [beq_eq_false_iff_ne]; omega
    have HO := Lib.hid h2
    clear h2
    go_enter Try.func51, Try.ntmps51
    go_wp2_with fail
    refine (coutgoing_any A1 A2 c1 c2 mt.length sg L _ h _ _ HD.out.rs (fun _ hb => hb) (by omega) rfl (by have := HN.out; omega)).mono ?_
    rintro e w1 ⟨rfl, hb⟩
    rw [HO.out]
    have HB1 := Lib.hid (HB.out.trans (hb.mono HB.out.size))
    clear hb
    go_wp2_with fail
    go_ret
    exact ⟨rfl, HB1.out⟩
/-- a row of integers of one's own, its list xs -/
theorem row_at {w : World} {B g c : Nat} {xs : List Int} (h : OI w B (.slice (some ⟨g, 0, none⟩) xs.length c) xs) {k : Nat} (hk : k < xs.length) : w.cell? ⟨g, k, none⟩ = some (.int .i64 (gi xs k)) ∧ w.frozen? ⟨g, k, none⟩ = false := by
  obtain ⟨g', c', e, -, -, -, -, h1, h2⟩ := h.block (by omega)
  injection e with e _ _
  injection e with e
  injection e with e
  subst e
  refine ⟨?_, h2 k⟩
  rw [h1 k hk, gi_lt hk]
theorem OI.put {w : World} {B g c n : Nat} {xs : List Int} (h : OI w B (.slice (some ⟨g, 0, none⟩) n c) xs) (hn : xs.length = n) (k : Nat) (y : Int) : OI (w.setCell ⟨g, k, none⟩ (.int .i64 y)) B (.slice (some ⟨g, 0, none⟩) n c) (xs.set k y) := by
  subst hn
  have := OR.stored (k := k) h y
  rwa [List.length_set] at this
set_option maxHeartbeats 4000000 in
theorem cross_any {w : World} {B g c : Nat} {u : List Int} {x y : Nat} (h : OI w B (.slice (some ⟨g, 0, none⟩) u.length c) u) (hI : InvM u) (hx : x < u.length) (hy : y < u.length) :
    Calls Try.prog 53 #[.slice (some ⟨g, 0, none⟩) u.length c, .int .i64 x, .int .i64 y] w fun e w' => e = .returned (.tuple #[]) ∧ OI w' B (.slice (some ⟨g, 0, none⟩) u.length c) (crM u x y) ∧ (∀ C, C ≤ g → Below C w w') ∧ ∀ b, b ≠ g → w'.heap[b]? = w.heap[b]? := by
  obtain ⟨x1, x2, -, -⟩ := hI.gn hx
  obtain ⟨y1, y2, -, -⟩ := hI.gn hy
  have HH := Lib.hid h
  have HU : Hid (crM u x y = (((u.set x (gn u y : Int)).set (gn u y) (x : Int)).set y (gn u x : Int)).set (gn u x) (y : Int)) := Lib.hid (by unfold crM; rw [x1, y1])
  obtain ⟨p, hp⟩ : ∃ p, gn u x = p := ⟨_, rfl⟩
  obtain ⟨q, hq⟩ : ∃ q, gn u y = q := ⟨_, rfl⟩
  obtain ⟨n, hn⟩ : ∃ n, u.length = n := ⟨_, rfl⟩
  have HN := Lib.hid hn
  rw [hp] at x1 x2 HU
  rw [hq] at y1 y2 HU
  rw [hn] at HH hx hy x2 y2 ⊢
  have HX := Lib.hid x1
  have HY := Lib.hid y1
  clear h hI x1 y1 hp hq hn
  obtain ⟨cx, fx⟩ := row_at (xs := u) (k := x) (by rw [HN.out]; exact HH.out) (by rw [HN.out]; exact hx)
  obtain ⟨cy, fy⟩ := row_at (xs := u) (k := y) (by rw [HN.out]; exact HH.out) (by rw [HN.out]; exact hy)
  rw [HX.out] at cx
  rw [HY.out] at cy
  go_enter Try.func53, Try.ntmps53
  go_wp2_with fail
  go_quiet (fail)
  replace HH : Hid (OI (w.drewN nq) B (.slice (some ⟨g, 0, none⟩) n c) u) := HH
  have HBC : Hid ((∀ C, Below C w (w.drewN nq)) ∧ ∀ b : Nat, (w.drewN nq).heap[b]? = w.heap[b]?) := Lib.hid ⟨fun C => below_drewN (Below.refl _ _) nq, fun b => rfl⟩
  clear cx cy fx fy HX HY
  generalize w.drewN nq = w0 at HH HBC ⊢
  have HO1 := Lib.hid (HH.out.put HN.out x (q : Int))
  have l1 : (u.set x (q : Int)).length = n := by rw [List.length_set]; exact HN.out
  have HO2 := Lib.hid (HO1.out.put l1 q (x : Int))
  have l2 : ((u.set x (q : Int)).set q (x : Int)).length = n := by rw [List.length_set]; exact l1
  have HO3 := Lib.hid (HO2.out.put l2 y (p : Int))
  have l3 : (((u.set x (q : Int)).set q (x : Int)).set y (p : Int)).length = n := by rw [List.length_set]; exact l2
  have HO4 := Lib.hid (HO3.out.put l3 p (y : Int))
  have HBE : Hid (∀ C, C ≤ g → Below C w ((((w0.setCell ⟨g, x, none⟩ (.int .i64 q)).setCell ⟨g, q, none⟩ (.int .i64 x)).setCell ⟨g, y, none⟩ (.int .i64 p)).setCell ⟨g, p, none⟩ (.int .i64 y))) := Lib.hid fun C hC => ((((HBC.out.1 C).setCell hC _).setCell hC _).setCell hC _).setCell hC _
  have HBO : Hid (∀ b, b ≠ g → ((((w0.setCell ⟨g, x, none⟩ (.int .i64 q)).setCell ⟨g, q, none⟩ (.int .i64 x)).setCell ⟨g, y, none⟩ (.int .i64 p)).setCell ⟨g, p, none⟩ (.int .i64 y)).heap[b]? = w.heap[b]?) := Lib.hid fun b hb => by
    rw [Below.heap_setCell _ _ _ b hb, Below.heap_setCell _ _ _ b hb, Below.heap_setCell _ _ _ b hb, Below.heap_setCell _ _ _ b hb]
    exact HBC.out.2 b
  obtain ⟨c0, f0⟩ := row_at (xs := u) (k := x) (by rw [HN.out]; exact HH.out) (by rw [HN.out]; exact hx)
  obtain ⟨c1, f1⟩ := row_at (xs := u.set x (q : Int)) (k := q) (by rw [l1]; exact HO1.out) (by rw [l1]; exact y2)
  obtain ⟨c2, f2⟩ := row_at (xs := (u.set x (q : Int)).set q (x : Int)) (k := y) (by rw [l2]; exact HO2.out) (by rw [l2]; exact hy)
  obtain ⟨c3, f3⟩ := row_at (xs := ((u.set x (q : Int)).set q (x : Int)).set y (p : Int)) (k := p) (by rw [l3]; exact HO3.out) (by rw [l3]; exact x2)
  clear l1 l2 l3 HO1 HO2 HO3
  go_wp2_with fail
  refine bodyPost_end (results_none rfl _ _ _) rfl ?_
  exact ⟨rfl, by rw [HU.out]; exact HO4.out, HBE.out, HBO.out⟩
end Go.Proofs.Ytaghemilihaiaaa

