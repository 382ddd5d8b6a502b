/-
  The contracts of six, of the search through the words, and of homs.
-/
import Derived.Test.YtcjgfncbecbhjaaImg
import Derived.Test.YtcjgfncbecbhjaaCycF
import Derived.Deep.RegionLaw
namespace Go.Proofs.Ytcjgfncbecbhjaa
open Go.RowKit

set_option maxHeartbeats 2000000 in
theorem six_any (w : World) : Calls Try.prog 69 #[] w fun e w' => ∃ g, e = .returned (.slice (some ⟨g, 0, none⟩) 6 6) ∧ g < w'.heap.size ∧ w.heap.size ≤ g ∧ Below w.heap.size w w' ∧
    ∀ d, d < 6 → w'.cell? ⟨g, d * 3, none⟩ = some (vI d 0) ∧ w'.cell? ⟨g, d * 3 + 1, none⟩ = some (vI d 1) ∧ w'.cell? ⟨g, d * 3 + 2, none⟩ = some (vI d 2) := by
  go_enter Try.func69, Try.ntmps69
  go_wp2_with fail
  go_ret
  have h := heap_alloc_new w (.cells #[.int .i64 0, .int .i64 1, .int .i64 2, .int .i64 0, .int .i64 2, .int .i64 1, .int .i64 1, .int .i64 0, .int .i64 2, .int .i64 1, .int .i64 2, .int .i64 0, .int .i64 2, .int .i64 0, .int .i64 1, .int .i64 2, .int .i64 1, .int .i64 0] 61)
  refine ⟨w.heap.size, rfl, by simp, Nat.le_refl _, (Below.refl _ _).alloc (Nat.le_refl _) _, fun d hd => ?_⟩
  rw [cell_of_row _ _ _ _ _ _ h, cell_of_row _ _ _ _ _ _ h, cell_of_row _ _ _ _ _ _ h]
  rcases (show d = 0 ∨ d = 1 ∨ d = 2 ∨ d = 3 ∨ d = 4 ∨ d = 5 by omega) with rfl | rfl | rfl | rfl | rfl | rfl <;> exact ⟨rfl, rfl, rfl⟩

/-! ### the search through words -/
/-- K with captures lb tells of each word whether p holds, and keeps what lies below -/
def PwOk (K : Nat) (lb : Array Value) (wss : List (List Int)) (p : List Int → Bool) (w : World) : Prop :=
  ∀ k, k < wss.length → ∀ (W : World) (A : Option Addr) (c : Nat), Below w.heap.size w W → RI W (· < W.heap.size) A (wss.getD k []) → Calls Try.prog K (#[.slice A (wss.getD k []).length c] ++ lb) W fun e w' => e = .returned (.bool (p (wss.getD k []))) ∧ Below W.heap.size W w'
set_option maxHeartbeats 2000000 in
theorem indexw_any (K : Nat) (q : Value) (hK : Enters K) (p : List Int → Bool) (A : Option Addr) (c : Nat) (wss : List (List Int)) (w : World) (T : Nat → Prop) (hx : RL w T A wss) (hT : ∀ b, T b → b < w.heap.size) (hm : wss.length ≤ 1000000) (hp : PwOk K #[q] wss p w) :
    Calls Try.prog 84 #[.slice A wss.length c, .func (.func K) #[] #[q]] w fun e w' => Below w.heap.size w w' ∧ ((∃ k : Nat, k < wss.length ∧ p (wss.getD k []) = true ∧ e = .returned (.int .i64 k)) ∨ ((∀ k, k < wss.length → p (wss.getD k []) = false) ∧ e = .returned (.int .i64 (-1)))) := by
  have HX := Lib.hid hx
  have HT := Lib.hid hT
  have HP := Lib.hid hp
  have hin : ∀ (args : Array Value) (w : World), (callFunc K args).run Try.prog w = .ok (.enter K args) w := hK
  clear hx hp hK hT
  go_enter Try.func84, Try.ntmps84
  go_wp2_with fail
  go_loopw [5, 8] (fun _ i wr => ∃ k : Nat, k ≤ wss.length ∧ i = .int .i64 k ∧ Hid (Below w.heap.size w wr) ∧ Hid (∀ j, j < k → p (wss.getD j []) = false)) (fun _ i _ => wss.length - (intOf i).toNat)
  case atStart => exact ⟨0, Nat.zero_le _, rfl, Below.refl _ _, fun j hj => by omega⟩
  case round =>
    obtain ⟨k, hk, rfl, HB, HA⟩ := hrel
    by_cases hlt : k < wss.length
    · have hr := HX.out.keep (w' := wr) (fun b h => HB.out.block b (HT.out b h))
      obtain ⟨b, off, rfl, -, hcc⟩ := hr.at_ hlt
      obtain ⟨Ak, ck, k3, r3, -⟩ := hcc k hlt
      have hC := HP.out k hlt wr Ak ck HB.out (r3.imp fun b h => Nat.lt_of_lt_of_le (HT.out b h) HB.out.size)
      have HC := Lib.hid hC
      clear hr hcc r3 hC
      cases hq : p (wss.getD k [])
      · rw [hq] at HC
        have HA' : Hid (∀ j, j < k + 1 → p (wss.getD j []) = false) := fun j hj => by
          rcases Nat.lt_or_eq_of_le (Nat.le_of_lt_succ hj) with h1 | rfl
          · exact HA.out j h1
          · exact hq
        clear hq HA
        obtain ⟨xs, hxs⟩ : ∃ xs, wss.getD k [] = xs := ⟨_, rfl⟩
        rw [hxs] at k3 HC
        clear hxs
        go_wp2_with fail
        refine HC.out.mono ?_
        rintro e w1 ⟨rfl, hb⟩
        have HB' := Lib.hid (HB.out.trans (hb.mono HB.out.size))
        clear hb
        go_wp2_with fail
        go_roundw
        case rel => exact ⟨k + 1, by omega, by go_num, HB', HA'⟩
        case measure => simp [intOf]; omega
      · rw [hq] at HC
        have HQ := Lib.hid hq
        obtain ⟨xs, hxs⟩ : ∃ xs, wss.getD k [] = xs := ⟨_, rfl⟩
        have HXS := Lib.hid hxs
        rw [hxs] at k3 HC
        clear hq HA hxs
        go_wp2_with fail
        refine HC.out.mono ?_
        rintro e w1 ⟨rfl, hb⟩
        have HB' := Lib.hid (HB.out.trans (hb.mono HB.out.size))
        clear hb
        go_wp2_with fail
        go_ret
        exact ⟨HB'.out, .inl ⟨k, hlt, HQ.out, rfl⟩⟩
    · obtain rfl : wss.length = k := by omega
      go_wp2_with fail
      go_ret
      exact ⟨HB.out, .inr ⟨HA.out, rfl⟩⟩
theorem contw_any (K : Nat) (q : Value) (hK : Enters K) (p : List Int → Bool) (A : Option Addr) (c n : Nat) (wss : List (List Int)) (w : World) (T : Nat → Prop) (hx : RL w T A wss) (hT : ∀ b, T b → b < w.heap.size) (hn : wss.length = n) (hm : n ≤ 1000000) (hp : PwOk K #[q] wss p w) {r : Bool} (hr : wss.any p = r) :
    Calls Try.prog 70 #[.slice A n c, .func (.func K) #[] #[q]] w fun e w' => e = .returned (.bool r) ∧ Below w.heap.size w w' := by
  subst hn
  have HC := Lib.hid (indexw_any K q hK p A c wss w T hx hT hm hp)
  have HR := Lib.hid hr
  clear hx hm hp hK hr hT
  go_enter Try.func70, Try.ntmps70
  go_wp2_with fail
  refine HC.out.mono ?_
  rintro e w1 ⟨hb, ⟨k, hk, hp, rfl⟩ | ⟨ha, rfl⟩⟩
  · have HB := Lib.hid hb
    obtain rfl : r = true := by
      rw [← HR.out, List.any_eq_true]
      refine ⟨wss.getD k [], ?_, hp⟩
      simp only [List.getD_eq_getElem?_getD, List.getElem?_eq_getElem hk, Option.getD_some]
      exact List.getElem_mem hk
    have h0 : (0 : Int) ≤ (k : Int) := by omega
    clear hp hb hk
    go_wp2_with fail
    go_ret
    exact ⟨rfl, HB.out⟩
  · have HB := Lib.hid hb
    obtain rfl : r = false := by
      rw [← HR.out, List.any_eq_false]
      intro x hx
      obtain ⟨k, hk, rfl⟩ := List.mem_iff_getElem.1 hx
      have := ha k hk
      simp only [List.getD_eq_getElem?_getD, List.getElem?_eq_getElem hk, Option.getD_some] at this
      rw [this]; simp
    clear ha hb
    go_wp2_with fail
    go_ret
    exact ⟨rfl, HB.out⟩

/-! ### is a word's image not the identity? -/
set_option maxHeartbeats 2000000 in
theorem homs1_any (A Al : Option Addr) (c cl b8 : Nat) (ys : List Int) (ls : List Nat) (w : World) (hx : RI w (· < w.heap.size) A ys) (hl : RT w (· < w.heap.size) Al ls) (h8 : w.cell? ⟨b8, 0, none⟩ = some (.slice Al ls.length cl))
    (hm : ys.length ≤ 1000000) (hn : ls.length ≤ 1000) (hw : WL ls.length ys) (hd : DgL ls) :
    Calls Try.prog 71 #[.slice A ys.length c, .pointer (some ⟨b8, 0, none⟩)] w fun e w' => e = .returned (.bool (!decide (imgD ls ys = 0))) ∧ Below w.heap.size w w' := by
  have HI := Lib.hid (image_any A Al c cl ys ls w (· < w.heap.size) (· < w.heap.size) hx (fun _ h => h) hl (fun _ h => h) hm hn hw hd)
  have hlt := imgD_lt hd hw
  obtain ⟨d, hdd⟩ : ∃ d, imgD ls ys = d := ⟨_, rfl⟩
  rw [hdd] at HI hlt ⊢
  have heq := fun W => eq_perm hlt (show 0 < 6 by decide) W
  have heq : ∀ W, (Op.equalIn 10000 61 (.agg #[vI d 0, vI d 1, vI d 2]) (.agg #[.int .i64 0, .int .i64 1, .int .i64 2])).run Try.prog W = .ok (decide (d = 0)) W := heq
  obtain ⟨v0, hv0⟩ : ∃ v, vI d 0 = v := ⟨_, rfl⟩
  obtain ⟨v1, hv1⟩ : ∃ v, vI d 1 = v := ⟨_, rfl⟩
  obtain ⟨v2, hv2⟩ : ∃ v, vI d 2 = v := ⟨_, rfl⟩
  simp only [hv0, hv1, hv2] at heq HI
  obtain ⟨r, hr⟩ : ∃ r, decide (d = 0) = r := ⟨_, rfl⟩
  simp only [hr] at heq ⊢
  clear hx hl hm hw hd hdd hlt hv0 hv1 hv2 hr
  go_enter Try.func71, Try.ntmps71
  go_wp2_with fail
  refine HI.out.mono ?_
  rintro e w1 ⟨rfl, hb⟩
  have HB := Lib.hid hb
  clear hb
  go_wp2_with fail
  go_ret
  exact ⟨rfl, HB.out⟩
theorem enH1 : Enters 71 := enters_of Try.func71 (by kernel_rfl) rfl
end Go.Proofs.Ytcjgfncbecbhjaa

