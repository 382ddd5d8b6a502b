/-
  The contracts of six, of the search through words, of homs's closure, and of homs.
-/
import Derived.Test.YtcjgfncbecbhjaaImg
import Derived.Test.YtcjgfncbecbhjaaCycF
import Derived.Deep.RegionLaw
import Derived.Test.YtcjgfncbecbhjaaCmpA
namespace Go.Proofs.Ytcjgfncbecbhjaa
open Go.RowKit

set_option maxHeartbeats 2000000 in
theorem six_any (w : World) : Calls Try.prog 69 #[] w fun e w' => ∃ g, e = .returned (.slice (some ⟨g, 0, none⟩) 6 6) ∧ g < w'.heap.size ∧ w.heap.size ≤ g ∧ Below w.heap.size w w' ∧
    ∀ d, d < 6 → w'.cell? ⟨g, d * 3, none⟩ = some (vI d 0) ∧ w'.cell? ⟨g, d * 3 + 1, none⟩ = some (vI d 1) ∧ w'.cell? ⟨g, d * 3 + 2, none⟩ = some (vI d 2) := by
  go_enter Try.func69, Try.ntmps69
  go_wp2_with fail
  go_ret
  have h := heap_alloc_new w (.cells #[.int .i64 0, .int .i64 1, .int .i64 2, .int .i64 0, .int .i64 2, .int .i64 1, .int .i64 1, .int .i64 0, .int .i64 2, .int .i64 1, .int .i64 2, .int .i64 0, .int .i64 2, .int .i64 0, .int .i64 1, .int .i64 2, .int .i64 1, .int .i64 0] 61)
  refine ⟨w.heap.size, rfl, by simp, Nat.le_refl _, (Below.refl _ _).alloc (Nat.le_refl _) _, fun d hd => ?_⟩
  rw [cell_of_row _ _ _ _ _ _ h, cell_of_row _ _ _ _ _ _ h, cell_of_row _ _ _ _ _ _ h]
  rcases (show d = 0 ∨ d = 1 ∨ d = 2 ∨ d = 3 ∨ d = 4 ∨ d = 5 by omega) with rfl | rfl | rfl | rfl | rfl | rfl <;> exact ⟨rfl, rfl, rfl⟩

/-! ### the search through words -/
/-- K with captures lb tells of each word whether p holds, and keeps what lies below -/
def PwOk (K : Nat) (lb : Array Value) (wss : List (List Int)) (p : List Int → Bool) (w : World) : Prop :=
  ∀ k, k < wss.length → ∀ (W : World) (A : Option Addr) (c : Nat), Below w.heap.size w W → RI W (· < W.heap.size) A (wss.getD k []) → Calls Try.prog K (#[.slice A (wss.getD k []).length c] ++ lb) W fun e w' => e = .returned (.bool (p (wss.getD k []))) ∧ Below W.heap.size W w'
set_option maxHeartbeats 2000000 in
theorem indexw_any (K : Nat) (q : Value) (hK : Enters K) (p : List Int → Bool) (A : Option Addr) (c : Nat) (wss : List (List Int)) (w : World) (T : Nat → Prop) (hx : RL w T A wss) (hT : ∀ b, T b → b < w.heap.size) (hm : wss.length ≤ 1000000) (hp : PwOk K #[q] wss p w) :
    Calls Try.prog 84 #[.slice A wss.length c, .func (.func K) #[] #[q]] w fun e w' => Below w.heap.size w w' ∧ ((∃ k : Nat, k < wss.length ∧ p (wss.getD k []) = true ∧ e = .returned (.int .i64 k)) ∨ ((∀ k, k < wss.length → p (wss.getD k []) = false) ∧ e = .returned (.int .i64 (-1)))) := by
  have HX := Lib.hid hx
  have HT := Lib.hid hT
  have HP := Lib.hid hp
  have hin : ∀ (args : Array Value) (w : World), (callFunc K args).run Try.prog w = .ok (.enter K args) w := hK
  clear hx hp hK hT
  go_enter Try.func84, Try.ntmps84
  go_wp2_with fail
  go_loopw [5, 8] (fun _ i wr => ∃ k : Nat, k ≤ wss.length ∧ i = .int .i64 k ∧ Hid (Below w.heap.size w wr) ∧ Hid (∀ j, j < k → p (wss.getD j []) = false)) (fun _ i _ => wss.length - (intOf i).toNat)
  case atStart => exact ⟨0, Nat.zero_le _, rfl, Below.refl _ _, fun j hj => by omega⟩
  case round =>
    obtain ⟨k, hk, rfl, HB, HA⟩ := hrel
    by_cases hlt : k < wss.length
    · have hr := HX.out.keep (w' := wr) (fun b h => HB.out.block b (HT.out b h))
      obtain ⟨b, off, rfl, -, hcc⟩ := hr.at_ hlt
      obtain ⟨Ak, ck, k3, r3, -⟩ := hcc k hlt
      have hC := HP.out k hlt wr Ak ck HB.out (r3.imp fun b h => Nat.lt_of_lt_of_le (HT.out b h) HB.out.size)
      have HC := Lib.hid hC
      clear hr hcc r3 hC
      cases hq : p (wss.getD k [])
      · rw [hq] at HC
        have HA' : Hid (∀ j, j < k + 1 → p (wss.getD j []) = false) := fun j hj => by
          rcases Nat.lt_or_eq_of_le (Nat.le_of_lt_succ hj) with h1 | rfl
          · exact HA.out j h1
          · exact hq
        clear hq HA
        obtain ⟨xs, hxs⟩ : ∃ xs, wss.getD k [] = xs := ⟨_, rfl⟩
        rw [hxs] at k3 HC
        clear hxs
        go_wp2_with fail
        refine HC.out.mono ?_
        rintro e w1 ⟨rfl, hb⟩
        have HB' := Lib.hid (HB.out.trans (hb.mono HB.out.size))
        clear hb
        go_wp2_with fail
        go_roundw
        case rel => exact ⟨k + 1, by omega, by go_num, HB', HA'⟩
        case measure => simp [intOf]; omega
      · rw [hq] at HC
        have HQ := Lib.hid hq
        obtain ⟨xs, hxs⟩ : ∃ xs, wss.getD k [] = xs := ⟨_, rfl⟩
        have HXS := Lib.hid hxs
        rw [hxs] at k3 HC
        clear hq HA hxs
        go_wp2_with fail
        refine HC.out.mono ?_
        rintro e w1 ⟨rfl, hb⟩
        have HB' := Lib.hid (HB.out.trans (hb.mono HB.out.size))
        clear hb
        go_wp2_with fail
        go_ret
        exact ⟨HB'.out, .inl ⟨k, hlt, HQ.out, rfl⟩⟩
    · obtain rfl : wss.length = k := by omega
      go_wp2_with fail
      go_ret
      exact ⟨HB.out, .inr ⟨HA.out, rfl⟩⟩
theorem contw_any (K : Nat) (q : Value) (hK : Enters K) (p : List Int → Bool) (A : Option Addr) (c n : Nat) (wss : List (List Int)) (w : World) (T : Nat → Prop) (hx : RL w T A wss) (hT : ∀ b, T b → b < w.heap.size) (hn : wss.length = n) (hm : n ≤ 1000000) (hp : PwOk K #[q] wss p w) {r : Bool} (hr : wss.any p = r) :
    Calls Try.prog 70 #[.slice A n c, .func (.func K) #[] #[q]] w fun e w' => e = .returned (.bool r) ∧ Below w.heap.size w w' := by
  subst hn
  have HC := Lib.hid (indexw_any K q hK p A c wss w T hx hT hm hp)
  have HR := Lib.hid hr
  clear hx hm hp hK hr hT
  go_enter Try.func70, Try.ntmps70
  go_wp2_with fail
  refine HC.out.mono ?_
  rintro e w1 ⟨hb, ⟨k, hk, hp, rfl⟩ | ⟨ha, rfl⟩⟩
  · have HB := Lib.hid hb
    obtain rfl : r = true := by
      rw [← HR.out, List.any_eq_true]
      refine ⟨wss.getD k [], ?_, hp⟩
      simp only [List.getD_eq_getElem?_getD, List.getElem?_eq_getElem hk, Option.getD_some]
      exact List.getElem_mem hk
    have h0 : (0 : Int) ≤ (k : Int) := by omega
    clear hp hb hk
    go_wp2_with fail
    go_ret
    exact ⟨rfl, HB.out⟩
  · have HB := Lib.hid hb
    obtain rfl : r = false := by
      rw [← HR.out, List.any_eq_false]
      intro x hx
      obtain ⟨k, hk, rfl⟩ := List.mem_iff_getElem.1 hx
      have := ha k hk
      simp only [List.getD_eq_getElem?_getD, List.getElem?_eq_getElem hk, Option.getD_some] at this
      rw [this]; simp
    clear ha hb
    go_wp2_with fail
    go_ret
    exact ⟨rfl, HB.out⟩

/-! ### is a word's image not the identity? -/
set_option maxHeartbeats 2000000 in
theorem homs1_any (A Al : Option Addr) (c cl b8 : Nat) (ys : List Int) (ls : List Nat) (w : World) (hx : RI w (· < w.heap.size) A ys) (hl : RT w (· < w.heap.size) Al ls) (h8 : w.cell? ⟨b8, 0, none⟩ = some (.slice Al ls.length cl))
    (hm : ys.length ≤ 1000000) (hn : ls.length ≤ 1000) (hw : WL ls.length ys) (hd : DgL ls) :
    Calls Try.prog 71 #[.slice A ys.length c, .pointer (some ⟨b8, 0, none⟩)] w fun e w' => e = .returned (.bool (!decide (imgD ls ys = 0))) ∧ Below w.heap.size w w' := by
  have HI := Lib.hid (image_any A Al c cl ys ls w (· < w.heap.size) (· < w.heap.size) hx (fun _ h => h) hl (fun _ h => h) hm hn hw hd)
  have hlt := imgD_lt hd hw
  obtain ⟨d, hdd⟩ : ∃ d, imgD ls ys = d := ⟨_, rfl⟩
  rw [hdd] at HI hlt ⊢
  have heq := fun W => eq_perm hlt (show 0 < 6 by decide) W
  have heq : ∀ W, (Op.equalIn 10000 61 (.agg #[vI d 0, vI d 1, vI d 2]) (.agg #[.int .i64 0, .int .i64 1, .int .i64 2])).run Try.prog W = .ok (decide (d = 0)) W := heq
  obtain ⟨v0, hv0⟩ : ∃ v, vI d 0 = v := ⟨_, rfl⟩
  obtain ⟨v1, hv1⟩ : ∃ v, vI d 1 = v := ⟨_, rfl⟩
  obtain ⟨v2, hv2⟩ : ∃ v, vI d 2 = v := ⟨_, rfl⟩
  simp only [hv0, hv1, hv2] at heq HI
  obtain ⟨r, hr⟩ : ∃ r, decide (d = 0) = r := ⟨_, rfl⟩
  simp only [hr] at heq ⊢
  clear hx hl hm hw hd hdd hlt hv0 hv1 hv2 hr
  go_enter Try.func71, Try.ntmps71
  go_wp2_with fail
  refine HI.out.mono ?_
  rintro e w1 ⟨rfl, hb⟩
  have HB := Lib.hid hb
  clear hb
  go_wp2_with fail
  go_ret
  exact ⟨rfl, HB.out⟩
theorem enH1 : Enters 71 := enters_of Try.func71 (by kernel_rfl) rfl

def EachOk (K : Nat) (lb : Array Value) (g : Nat) (wss : List (List Int)) (w : World) : Prop :=
  ∀ (W : World) (A : Option Addr) (c : Nat) (ls : List Nat), Below w.heap.size w W → ls.length = g → DgL ls → homB wss ls = true → RT W (· < W.heap.size) A ls → Calls Try.prog K (#[.slice A g c] ++ lb) W fun e w' => e = .returned (.bool true) ∧ Below W.heap.size W w'
theorem any_homB (ls : List Nat) : ∀ wss : List (List Int), wss.any (fun ys => !decide (imgD ls ys = 0)) = !homB wss ls
  | [] => rfl
  | a :: t => by
    have := any_homB ls t
    unfold homB at this ⊢
    rw [List.any_cons, List.all_cons, this, Bool.not_and]
/-- while digits are appended -/
structure HmS (w0 w : World) (b8 : Nat) (v : Value) (ds : List Nat) : Prop where
  bel : Below w0.heap.size w0 w
  b8e : b8 = w0.heap.size
  box : w.heap[b8]? = some (.cells #[v] 56 (0, 0))
  row : OT w (b8 + 1) v ds
section
variable {w0 w : World} {b8 : Nat} {v : Value} {ds : List Nat}
theorem HmS.cell (h : HmS w0 w b8 v ds) : w.cell? ⟨b8, 0, none⟩ = some v := by rw [cell_of_row _ _ _ _ _ _ h.box]; rfl
theorem HmS.free (h : HmS w0 w b8 v ds) : w.frozen? ⟨b8, 0, none⟩ = false := by unfold World.frozen?; rw [h.box]; rfl
theorem HmS.lt (h : HmS w0 w b8 v ds) : b8 < w.heap.size := lt_of_block h.box
theorem HmS.start (w0 : World) : HmS w0 (w0.alloc (.cells #[.slice none 0 0] 56)) w0.heap.size (.slice none 0 0) [] :=
  ⟨(Below.refl _ _).alloc (Nat.le_refl _) _, rfl, heap_alloc_new _ _, OT.nil _ _⟩
theorem HmS.drew (h : HmS w0 w b8 v ds) : HmS w0 w.drew b8 v ds := ⟨h.bel.drew, h.b8e, h.box, h.row⟩
theorem HmS.call {w' : World} (h : HmS w0 w b8 v ds) (hb : Below w.heap.size w w') : HmS w0 w' b8 v ds :=
  ⟨h.bel.trans (hb.mono h.bel.size), h.b8e, (hb.block b8 h.lt).trans h.box, h.row.below hb (Nat.le_refl _)⟩
theorem HmS.alloc (h : HmS w0 w b8 v ds) (o : Obj) : HmS w0 (w.alloc o) b8 v ds := h.call ((Below.refl _ _).alloc (Nat.le_refl _) _)
theorem HmS.grown {w6 : World} {v6 : Value} {ds6 : List Nat} (h : HmS w0 w b8 v ds) (_ho : OT w6 (b8 + 1) v6 ds6) (hg : w.grownBy w6 v.ownBlock) : w6.heap[b8]? = some (.cells #[v] 56 (0, 0)) :=
  (hg.block b8 h.lt (fun e => by have := (h.row.lt b8 e.symm).1; omega)).trans h.box
theorem HmS.push {w6 : World} {v6 : Value} {ds6 : List Nat} (h : HmS w0 w b8 v ds) (ho : OT w6 (b8 + 1) v6 ds6) (hg : w.grownBy w6 v.ownBlock) : HmS w0 (w6.setCell ⟨b8, 0, none⟩ v6) b8 v6 ds6 := by
  have h8 := h.grown ho hg
  have hlt := lt_of_block h8
  have he := h.b8e
  refine ⟨(h.bel.grown hg h.bel.size (fun k hk => by have := (h.row.lt k hk).1; omega)).setCell (by show w0.heap.size ≤ b8; omega) _, he, ?_, ho.keep fun g hgo => Below.heap_setCell _ _ _ _ (by have := (ho.lt g hgo).1; show g ≠ b8; omega)⟩
  have h' : w6.heap[b8] = .cells #[v] 56 (0, 0) := by simpa [Array.getElem?_eq_getElem hlt] using h8
  show (w6.heap.modify b8 _)[b8]? = _
  rw [Array.getElem?_eq_getElem (by simpa using hlt), Array.getElem_modify_self, h']
  rfl
end

set_option maxRecDepth 100000 in
set_option maxHeartbeats 8000000 in
theorem homs_any (K : Nat) (lb : Array Value) (hK : Enters K) (g : Nat) (vc : Option Addr) (nc cc : Nat) (Aw : Option Addr) (nw cw : Nat) (wss : List (List Int)) (w : World) (T : Nat → Prop) (hx : RL w T Aw wss) (hT : ∀ b, T b → b < w.heap.size)
    (hn : wss.length = nw) (hm : nw ≤ 1000) (hg : g ≤ 5) (hw : ∀ k, k < wss.length → WL g (wss.getD k []) ∧ (wss.getD k []).length ≤ 1000000) (he : EachOk K lb g wss w) :
    Calls Try.prog 38 #[.agg #[.int .i64 (g : Int), .slice vc nc cc, .slice Aw nw cw], .func (.func K) #[] lb] w fun e w' => e = .returned (.int .i64 (homN wss g (6 ^ g) : Int)) ∧ Below w.heap.size w w' := by
  have HX := Lib.hid hx
  have HT := Lib.hid hT
  have HN := Lib.hid hn
  have HW := Lib.hid hw
  have HE := Lib.hid he
  have HG : Hid (GBox (w.alloc (.cells #[.int .i64 (g : Int), .slice vc nc cc, .slice Aw nw cw] 35)) w.heap.size g (.slice vc nc cc) (.slice Aw nw cw)) := heap_alloc_new _ _
  have HB := Lib.hid ((Below.refl w.heap.size w).alloc (Nat.le_refl _) (.cells #[.int .i64 (g : Int), .slice vc nc cc, .slice Aw nw cw] 35))
  have hin : ∀ (args : Array Value) (w : World), (callFunc K args).run Try.prog w = .ok (.enter K args) w := hK
  obtain ⟨g0, g1, g2⟩ := HG.out.cells
  have hpw : ∀ k, k ≤ g → 6 ^ k ≤ 7776 := fun k hk => Nat.le_trans (Nat.pow_le_pow_right (by decide) (Nat.le_trans hk hg)) (by decide)
  have HPW := Lib.hid hpw
  clear hx hT hn hw he hK hpw
  go_enter Try.func38, Try.ntmps38
  go_wp2_with fail
  obtain ⟨W0, hW0⟩ : ∃ W, w.alloc (.cells #[.int .i64 (g : Int), .slice vc nc cc, .slice Aw nw cw] 35) = W := ⟨_, rfl⟩
  have hsz : W0.heap.size = w.heap.size + 1 := by rw [← hW0]; simp
  have HSZ := Lib.hid hsz
  go_loopw [5, 12] (fun t i wr => ∃ k : Nat, k ≤ g ∧ i = .int .i64 k ∧ t = .int .i64 ((6 ^ k : Nat) : Int) ∧ w.alloc (.cells #[.int .i64 (g : Int), .slice vc nc cc, .slice Aw nw cw] 35) = wr) (fun _ i _ => g - (intOf i).toNat)
  case atStart => exact ⟨0, Nat.zero_le _, rfl, rfl, rfl⟩
  case round =>
    obtain ⟨k, hk, rfl, rfl, rfl⟩ := hrel
    have h6 := HPW.out k hk
    by_cases hlt : k < g
    · have hps : 6 ^ (k + 1) = 6 ^ k * 6 := Nat.pow_succ ..
      obtain ⟨t, ht⟩ : ∃ t, 6 ^ k = t := ⟨_, rfl⟩
      rw [ht] at h6 hps ⊢
      have w1 : IntKind.i64.wrap ((t : Int) * 6) = (t : Int) * 6 := IntWalk.i64_in _ (by omega)
      have HPS := Lib.hid hps
      clear ht hps
      go_wp2_with fail
      go_roundw
      case rel => exact ⟨k + 1, by omega, by go_num, by rw [HPS.out, Int.natCast_mul]; rfl, by trivial⟩
      case measure => simp [intOf]; omega
    · obtain rfl : g = k := by omega
      obtain ⟨tt, htt⟩ : ∃ t, 6 ^ g = t := ⟨_, rfl⟩
      rw [htt] at h6 ⊢
      have HTT := Lib.hid htt
      have HB0 := HB
      have HG0 := HG
      rw [hW0] at HB0 HG0 g0 g1 g2
      clear htt hlt
      go_wp2_with fail
      clear hW0 HB HG HPW hsz
      go_loopw [6, 18] (fun n x' wr => ∃ x : Nat, x ≤ tt ∧ x' = .int .i64 x ∧ n = .int .i64 (homN wss g x : Int) ∧ Hid (Below W0.heap.size W0 wr)) (fun _ x' _ => tt - (intOf x').toNat)
      case atStart => exact ⟨0, Nat.zero_le _, rfl, rfl, Below.refl _ _⟩
      case round =>
        obtain ⟨x, hx, rfl, rfl, HBL⟩ := hrel
        by_cases hlt : x < tt
        · have HG1 := Lib.hid (HG0.out.keep (HBL.out.block w.heap.size (by have := HSZ.out; omega)))
          obtain ⟨w7, rfl⟩ : ∃ x : World, x = wr := ⟨_, rfl⟩
          have HM0 := Lib.hid (HmS.start w7)
          have hns : homN wss g (x + 1) = homN wss g x + if homB wss (dg g x) = true then 1 else 0 := cnt_succ _ _
          have hnb : homN wss g x ≤ x := cnt_le _ _
          obtain ⟨n, hn⟩ : ∃ n, homN wss g x = n := ⟨_, rfl⟩
          rw [hn] at hns hnb ⊢
          have HNS := Lib.hid hns
          clear hns hn g0 g1 g2
          go_wp2_with fail
          obtain ⟨b8, hb8⟩ : ∃ b, w7.heap.size = b := ⟨_, rfl⟩
          rw [hb8] at HM0 ⊢
          have HB8 := Lib.hid hb8
          clear hb8
          go_loopg [9] (g + 1) (fun F r wr => ∃ (k : Nat) (v : Value), k ≤ g ∧ r = .int .i64 (rst k x : Int) ∧ Hid (HmS w7 wr b8 v (dg k x)) ∧ Hid (g - k < F))
          case atStart => exact ⟨0, _, Nat.zero_le _, rfl, HM0, by show _ - _ < _; omega⟩
          case round =>
            clear HM0
            obtain ⟨k, v, hk, rfl, HM, HF⟩ := hrel
            have HG2 := Lib.hid (HG1.out.keep (HM.out.bel.block w.heap.size (by have := HBL.out.size; have := HSZ.out; omega)))
            obtain ⟨g0, g1, g2⟩ := HG2.out.cells
            have c8 := HM.out.cell
            obtain ⟨A, c, rfl, -, -⟩ := HM.out.row.shape
            rw [dg_len] at c8 HM
            by_cases hkg : k < g
            · have hrx := rst_le k x
              have hds := dg_succ k x
              have hr1 : rst (k + 1) x = rst k x / 6 := rfl
              obtain ⟨r, hr⟩ : ∃ r, rst k x = r := ⟨_, rfl⟩
              rw [hr] at hrx hds hr1 ⊢
              obtain ⟨d, hd⟩ : ∃ d, r % 6 = d := ⟨_, rfl⟩
              have hd6 : d < 6 := by omega
              rw [hd] at hds
              obtain ⟨ds, hdd⟩ : ∃ ds, dg k x = ds := ⟨_, rfl⟩
              have hdl : ds.length = k := by rw [← hdd, dg_len]
              rw [hdd] at hds HM
              obtain ⟨r', hr'⟩ : ∃ r', r / 6 = r' := ⟨_, rfl⟩
              rw [hr'] at hr1
              have HR1 := Lib.hid hr1
              have HDS := Lib.hid hds
              have HDL : Hid (ds.length < 1099511627776) := by rw [hdl]; exact (by omega : k < 1099511627776)
              have HDK := Lib.hid hdl
              have tm : (r : Int).tmod 6 = (d : Int) := by rw [Int.tmod_eq_emod_of_nonneg (by omega)]; omega
              have td : (r : Int).tdiv 6 = (r' : Int) := by rw [Int.tdiv_eq_ediv_of_nonneg (by omega)]; omega
              have tw : IntKind.i64.wrap (r' : Int) = (r' : Int) := IntWalk.i64_in _ (by omega)
              have i1 : (0 : Int) ≤ (d : Int) ∧ (d : Int) < 6 := by omega
              have HMd := Lib.hid HM.out.drew
              clear hr hd hdd hr' hr1 hds hdl HM
              go_wp2_with fail
              go_region_law (first
                | (go_simp; go_at_call 69; (refine (six_any _).mono ?_; rintro e9 wb ⟨gs, rfl, hgs, hgs2, hb9, hc9⟩; have hm9 := HMd.out.call hb9; have c9 := hm9.cell; have c10 := (hm9.alloc (.cells #[vI d 0, vI d 1, vI d 2] 61)).cell; obtain ⟨d0, d1, d2⟩ := hc9 d hd6))
                | (refine step_app_trip (d := d) (hm9.alloc _).row HDL.out (hm9.alloc _).lt (heap_alloc_new _ _) rfl rfl Try.underlying56 rfl rfl ?_; intro v6 w6 ho6 hg6 hob6; have h68 := (hm9.alloc _).grown ho6 hg6; have hp6 := Lib.hid ((hm9.alloc _).push ho6 hg6); have c6 : w6.cell? ⟨b8, 0, none⟩ = some (.slice A k c) := (by rw [cell_of_row _ _ _ _ _ _ h68]; exact rfl); have f6 : w6.frozen? ⟨b8, 0, none⟩ = false := (by unfold World.frozen?; rw [h68]; exact rfl); obtain ⟨A6, k6, hv6, -, -⟩ := ho6.shape; clear ho6 hg6 hob6; (generalize List.length _ = n6 at hv6); subst hv6))
              all_goals rw [← HDS.out] at hp6
              all_goals clear h68 c6 f6 hm9 c9 c10 hc9 d0 d1 d2 hb9 HMd HDL tm
              all_goals go_wp2_with fail
              all_goals clear td tw
              all_goals (go_roundg (g - k))
              all_goals first
                | exact HF.out
                | exact ⟨k + 1, _, by omega, by rw [HR1.out], hp6, by show _ - _ < _; omega⟩
            · obtain rfl : g = k := by omega
              have HLS := Lib.hid (dg_len g x)
              have HDG := Lib.hid (dg_dg g x)
              obtain ⟨Al, cl, hv, hrt⟩ := HM.out.row.reads
              rw [dg_len] at hv
              injection hv with e1 e2 e3
              subst e1 e3
              have HRT := Lib.hid (hrt.imp (T := (· < wr.heap.size)) fun b h => h.2)
              have HBW := Lib.hid (HBL.out.trans (HM.out.bel.mono HBL.out.size))
              have HB0W := Lib.hid (HB0.out.trans (HBW.out.mono (by have := HSZ.out; omega)))
              have HXW := Lib.hid (HX.out.keep (w' := wr) (fun b h => HB0W.out.block b (HT.out b h)))
              obtain ⟨ls, hls⟩ : ∃ ls, dg g x = ls := ⟨_, rfl⟩
              rw [hls] at HLS HDG HRT HNS HM
              have HPW : Hid (PwOk 71 #[.pointer (some ⟨b8, 0, none⟩)] wss (fun ys => !decide (imgD ls ys = 0)) wr) := by
                intro j hj W A9 c9 hb hr
                have h8 : W.cell? ⟨b8, 0, none⟩ = some (.slice A g c) := (World.cell?_of_block (a := ⟨b8, 0, none⟩) (hb.block b8 HM.out.lt)).trans c8
                have hl9 := HLS.out
                have hrt9 := (HRT.out.keep (w' := W) (fun b h => hb.block b h)).imp (T := (· < W.heap.size)) fun b h => Nat.lt_of_lt_of_le h hb.size
                have h9 := homs1_any A9 A c9 c b8 (wss.getD j []) ls W hr hrt9 (by rw [hl9]; exact h8) (HW.out j hj).2 (by rw [hl9]; omega) (by rw [hl9]; exact (HW.out j hj).1) HDG.out
                exact h9
              have hany := any_homB ls wss
              clear hkg hls hrt
              go_wp2_with fail
              cases hq : homB wss ls
              · rw [hq] at hany
                have hns2 : homN wss g (x + 1) = n := by rw [HNS.out, hq]; simp
                have HN2 := Lib.hid hns2
                refine (contw_any _ _ enH1 _ Aw cw nw wss wr T HXW.out (fun b h => Nat.lt_of_lt_of_le (HT.out b h) HB0W.out.size) HN.out (by omega) HPW.out hany).mono ?_
                rintro e w9 ⟨rfl, hb⟩
                have HB9 := Lib.hid (HBW.out.trans (hb.mono HBW.out.size))
                clear hb hq hany hns2 c8 g0 g1 g2 HPW HRT HM
                go_wp2_with fail
                go_roundw
                case rel => exact ⟨x + 1, by omega, by go_num, by rw [HN2.out], HB9⟩
                case measure => simp [intOf]; omega
              · rw [hq] at hany
                have hns2 : homN wss g (x + 1) = n + 1 := by rw [HNS.out, hq]; simp
                have HN2 := Lib.hid hns2
                refine (contw_any _ _ enH1 _ Aw cw nw wss wr T HXW.out (fun b h => Nat.lt_of_lt_of_le (HT.out b h) HB0W.out.size) HN.out (by omega) HPW.out hany).mono ?_
                rintro e w9 ⟨rfl, hb⟩
                have HB9 := Lib.hid (HBW.out.trans (hb.mono HBW.out.size))
                have c89 := (World.cell?_of_block (a := ⟨b8, 0, none⟩) (hb.block b8 HM.out.lt)).trans c8
                have HE9 := Lib.hid (HE.out w9 A c ls (HB0W.out.trans (hb.mono HB0W.out.size)) HLS.out HDG.out hq ((HRT.out.keep (w' := w9) (fun b h => hb.block b h)).imp fun b h => Nat.lt_of_lt_of_le h hb.size))
                have wn : IntKind.i64.wrap ((n : Int) + 1) = (n : Int) + 1 := IntWalk.i64_in _ (by omega)
                clear hb hq hany hns2 c8 g0 g1 g2 HPW HRT HM
                go_wp2_with fail
                refine HE9.out.mono ?_
                rintro e w10 ⟨rfl, hb⟩
                have HB10 := Lib.hid (HB9.out.trans (hb.mono HB9.out.size))
                clear hb c89
                go_wp2_with fail
                go_roundw
                case rel => exact ⟨x + 1, by omega, by go_num, by rw [HN2.out]; rfl, HB10⟩
                case measure => simp [intOf]; omega
        · obtain rfl : tt = x := by omega
          rw [← HTT.out]
          have HBF := Lib.hid (HB0.out.trans (HBL.out.mono (by have := HSZ.out; omega)))
          clear hlt
          go_wp2_with fail
          go_ret
          exact ⟨rfl, HBF.out⟩
end Go.Proofs.Ytcjgfncbecbhjaa

