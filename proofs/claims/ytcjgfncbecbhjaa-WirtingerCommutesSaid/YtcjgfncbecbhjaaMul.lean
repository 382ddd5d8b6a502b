/-
  The contracts of word.Mul and of the law's comparison of two images.
-/
import Derived.Test.YtcjgfncbecbhjaaHomW
import Derived.Deep.RegionHeld3
namespace Go.Proofs.Ytcjgfncbecbhjaa
open Go.RowKit

def mulW (wss : List (List Int)) : List Int := wss.foldl redF []
theorem mulW_take {wss : List (List Int)} {k : Nat} (h : k < wss.length) : mulW (wss.take (k + 1)) = redF (mulW (wss.take k)) (wss.getD k []) := by
  unfold mulW
  rw [List.take_succ_eq_append_getElem h, List.foldl_append]
  simp [List.getD_eq_getElem?_getD, h]
set_option maxRecDepth 100000 in
set_option maxHeartbeats 4000000 in
theorem mul_any (A : Option Addr) (c : Nat) (wss : List (List Int)) (w : World) (T : Nat → Prop) (hx : RL w T A wss) (hT : ∀ b, T b → b < w.heap.size) (hm : wss.length ≤ 1000) (hb : ∀ k, k < wss.length → Bd (wss.getD k []) ∧ (wss.getD k []).length ≤ 1000) :
    Calls Try.prog 39 #[.slice A wss.length c] w fun e w' => ∃ v, e = .returned v ∧ OI w' w.heap.size v (mulW wss) ∧ Below w.heap.size w w' := by
  have HX := Lib.hid hx
  have HT := Lib.hid hT
  have HBD := Lib.hid hb
  clear hx hT hb
  go_enter Try.func39, Try.ntmps39
  go_wp2_with fail
  have HV0 : Hid (OI w w.heap.size (.slice none 0 0) (mulW (wss.take 0))) := OR.nil _ _
  go_loopw [3, 8] (fun v i' wr => ∃ k : Nat, k ≤ wss.length ∧ i' = .int .i64 k ∧ Hid (OI wr w.heap.size v (mulW (wss.take k))) ∧ Hid (Below w.heap.size w wr) ∧ Hid ((mulW (wss.take k)).length ≤ 1000 * k)) (fun _ i' _ => wss.length - (intOf i').toNat)
  case atStart => exact ⟨0, Nat.zero_le _, rfl, HV0, Below.refl _ _, Nat.zero_le _⟩
  case round =>
    clear HV0
    obtain ⟨k, hk, rfl, HV, HB, HL⟩ := hrel
    by_cases hlt : k < wss.length
    · have hr := HX.out.keep (w' := wr) (fun b h => HB.out.block b (HT.out b h))
      obtain ⟨b, off, rfl, -, hcc⟩ := hr.at_ hlt
      obtain ⟨Ak, ck, k3, r3, -⟩ := hcc k hlt
      obtain ⟨hbd, hln⟩ := HBD.out k hlt
      have hst := mulW_take hlt
      have hl2 := redF_len (mulW (wss.take k)) (wss.getD k [])
      have hl1 : (mulW (wss.take k)).length ≤ 1000 * k := HL.out
      obtain ⟨ys, hys⟩ : ∃ ys, wss.getD k [] = ys := ⟨_, rfl⟩
      rw [hys] at k3 r3 hbd hln hst hl2
      have hP := push_any w.heap.size u3 (mulW (wss.take k)) Ak ck ys wr _ HV.out HB.out.size (r3.imp (T := (· < w.heap.size)) fun b h => HT.out b h) (fun b h => h) (by omega) hbd
      have HP := Lib.hid hP
      have HST := Lib.hid hst
      have HL' := Lib.hid (show (mulW (wss.take (k + 1))).length ≤ 1000 * (k + 1) by rw [hst]; omega)
      clear hr hcc r3 hbd hst hl2 hl1 hys hP
      go_wp2_with fail
      refine HP.out.mono ?_
      rintro e w1 ⟨v', rfl, ho, hb⟩
      have HV' : Hid (OI w1 w.heap.size v' (mulW (wss.take (k + 1)))) := by rw [HST.out]; exact ho
      have HB' := Lib.hid (HB.out.trans hb)
      clear ho hb HV HB HP
      go_wp2_with fail
      go_roundw
      case rel => exact ⟨k + 1, by omega, by go_num, HV', HB', HL'⟩
      case measure => simp [intOf]; omega
    · obtain rfl : wss.length = k := by omega
      rw [List.take_length] at HV
      go_wp2_with fail
      go_ret
      exact ⟨_, rfl, HV.out, HB.out⟩

/-- two words, a list and two boxes -/
structure CmS (w : World) (b1 b2 : Nat) (Au Av Al : Option Addr) (cu cv : Nat) (us vs : List Int) (ls : List Nat) : Prop where
  c1 : w.cell? ⟨b1, 0, none⟩ = some (.slice Au us.length cu)
  c2 : w.cell? ⟨b2, 0, none⟩ = some (.slice Av vs.length cv)
  ru : RI w (· < w.heap.size) Au us
  rv : RI w (· < w.heap.size) Av vs
  rl : RT w (· < w.heap.size) Al ls
theorem CmS.below {w w' : World} {b1 b2 : Nat} {Au Av Al : Option Addr} {cu cv : Nat} {us vs : List Int} {ls : List Nat} (h : CmS w b1 b2 Au Av Al cu cv us vs ls) (hb : Below w.heap.size w w') : CmS w' b1 b2 Au Av Al cu cv us vs ls :=
  ⟨(World.cell?_of_block (a := ⟨b1, 0, none⟩) (hb.block b1 (World.block_lt_of_cell? w _ h.c1))).trans h.c1, (World.cell?_of_block (a := ⟨b2, 0, none⟩) (hb.block b2 (World.block_lt_of_cell? w _ h.c2))).trans h.c2,
    (h.ru.below hb).imp fun _ h => Nat.lt_of_lt_of_le h hb.size, (h.rv.below hb).imp fun _ h => Nat.lt_of_lt_of_le h hb.size, (h.rl.keep fun b h => hb.block b h).imp fun _ h => Nat.lt_of_lt_of_le h hb.size⟩
theorem CmS.pack {w : World} {b1 b2 : Nat} {Au Av Al : Option Addr} {cu cv : Nat} {us vs : List Int} {ls : List Nat} (h : CmS w b1 b2 Au Av Al cu cv us vs ls) : Hid (CmS w b1 b2 Au Av Al cu cv us vs ls) ∧ w.cell? ⟨b1, 0, none⟩ = some (.slice Au us.length cu) ∧ w.cell? ⟨b2, 0, none⟩ = some (.slice Av vs.length cv) := ⟨h, h.c1, h.c2⟩
set_option maxRecDepth 100000 in
set_option maxHeartbeats 4000000 in
theorem com1_any (b1 b2 : Nat) (Au Av Al : Option Addr) (cu cv cl g : Nat) (us vs : List Int) (ls : List Nat) (w : World) (h : CmS w b1 b2 Au Av Al cu cv us vs ls) (hg : ls.length = g) (hu : us.length ≤ 1000000) (hv : vs.length ≤ 1000000) (hn : g ≤ 1000)
    (wu : WL g us) (wv : WL g vs) (hd : DgL ls) (he : imgD ls us = imgD ls vs) :
    Calls Try.prog 40 #[.slice Al g cl, .pointer (some ⟨b1, 0, none⟩), .pointer (some ⟨b2, 0, none⟩)] w fun e w' => e = .returned (.bool true) ∧ Below w.heap.size w w' := by
  subst hg
  have HS := Lib.hid (h.below (Below.refl _ _).drew)
  have hlt := imgD_lt hd wu
  have HU := Lib.hid (fun (W : World) (hS : CmS W b1 b2 Au Av Al cu cv us vs ls) => image_any Au Al cu cl us ls W (· < W.heap.size) (· < W.heap.size) hS.ru (fun _ h => h) hS.rl (fun _ h => h) hu hn wu hd)
  have HV := Lib.hid (fun (W : World) (hS : CmS W b1 b2 Au Av Al cu cv us vs ls) => image_any Av Al cv cl vs ls W (· < W.heap.size) (· < W.heap.size) hS.rv (fun _ h => h) hS.rl (fun _ h => h) hv hn wv hd)
  rw [← he] at HV
  obtain ⟨d, hdd⟩ : ∃ d, imgD ls us = d := ⟨_, rfl⟩
  rw [hdd] at HU HV hlt
  have heq := fun W => eq_perm hlt hlt W
  simp only [decide_true] at heq
  obtain ⟨v0, hv0⟩ : ∃ v, vI d 0 = v := ⟨_, rfl⟩
  obtain ⟨v1, hv1⟩ : ∃ v, vI d 1 = v := ⟨_, rfl⟩
  obtain ⟨v2, hv2⟩ : ∃ v, vI d 2 = v := ⟨_, rfl⟩
  simp only [hv0, hv1, hv2] at heq HU HV
  have c1 := h.c1
  have c2 := h.c2
  clear h hu hv wu wv hd he hdd hlt hv0 hv1 hv2
  go_enter Try.func40, Try.ntmps40
  go_wp2_with fail
  go_region_held3 (fun w' => Hid (CmS w' b1 b2 Au Av Al cu cv us vs ls) ∧ w'.cell? ⟨b1, 0, none⟩ = some (.slice Au us.length cu) ∧ w'.cell? ⟨b2, 0, none⟩ = some (.slice Av vs.length cv))
    (first | exact HS.out.pack | exact hSa.pack | exact hSb.pack)
    (first
      | (go_at_call 41; with_reducible (show Calls _ _ #[Value.slice Au us.length cu, _] _ _); ((refine (HU.out w.drew HS.out).mono ?_); rintro e9 wa ⟨rfl, hba⟩; have hSa := HS.out.below hba))
      | (go_at_call 41; with_reducible (show Calls _ _ #[Value.slice Av vs.length cv, _] _ _); ((refine (HV.out wa hSa).mono ?_); rintro e9 wb ⟨rfl, hbb⟩; have hSb := hSa.below hbb)))
  have HBF := Lib.hid ((Below.refl w.heap.size w).drew.trans (hba.trans (hbb.mono hba.size)))
  clear hba hbb hSa hSb
  go_wp2_with fail
  go_ret
  exact ⟨rfl, HBF.out⟩
theorem enC1 : Enters 40 := enters_of Try.func40 (by kernel_rfl) rfl
end Go.Proofs.Ytcjgfncbecbhjaa

