/- Layer 13: awake answers true. -/
import Derived.Test.YtdfeiajdmmlllaaDoorRingI
import Derived.Test.YtdfeiajdmmlllaaDoorEncD
namespace Go.Proofs.YtdfeiajdmmlllaaDoor
open Go.Proofs Stab Go.Shelf Go.RowKit Go.Lib Go.Sort

def key5 : List UInt8 := [0, 0, 0, 0, 0, 0, 0, 5, 0, 0, 0, 0, 0, 0, 0, 0, 0, 0, 0, 0, 0, 0, 0, 0, 0, 0, 0, 0, 0, 0, 0, 0]
def zeroK : List UInt8 := List.replicate 32 0
theorem zeroDg (w : World) : (zeroValue 23).run Tryd.prog w = .ok (.agg (u8s zeroK).toArray) w := by kernel_rfl
theorem infoDg13 {k : List UInt8} (hk : k.length = 32) : (Tryd.prog.info? 23).map (·.size) = some (u8s k).length := by
  have e : (Tryd.prog.info? 23).map (·.size) = some 32 := by kernel_rfl
  rw [e]
  simp [u8s, hk]
theorem u8s_oneK (l : List UInt8) : ∀ v ∈ u8s l, v.oneCell' = true := fun v hv => by
  obtain ⟨b, _, rfl⟩ := List.mem_map.1 hv
  rfl
theorem built_key5 : Tryd.prog.built 23 [(7, .int .u8 5)] = some (u8s key5).toArray := by kernel_rfl
theorem built_at {P : Program} {t : Nat} {ps qs : List (Nat × Value)} {cells : Array Value} (h : P.built t ps = some cells) (e : qs = ps) : P.built t qs = some cells := e ▸ h
theorem At.all {w : World} {b : Nat} {t : TypeId} {cs : List Value} (h : At w b t cs) : w.rangeAt b 0 cs := by
  have := h.range 0 cs.length
  rwa [List.drop_zero, List.take_length] at this
theorem walk_one (k : List UInt8) {x : Int} (hx : 1 ≤ x ∧ x ≤ 6) : walkK k [x] = [x] := walk_eq (List.pairwise_singleton _ _) fun n => by
  rw [List.mem_singleton]
  constructor
  · rintro rfl; exact ⟨rfl, hx⟩
  · exact fun h => h.1
theorem walk_four (k : List UInt8) : walkK k [4] = [4] := walk_one k (by decide)
theorem walk_none (k : List UInt8) : walkK k [] = [] := walk_eq List.Pairwise.nil fun n => by simp
theorem owns_three (k : List UInt8) : ownsK k [3] = [3] := by unfold ownsK; rw [walk_one k (by decide)]; rfl
theorem text_37 : pointText 3 7 = Sap.row [ringB, [1, 3], [1, 7]] := by decide +kernel
theorem place_key5 : placeR key5 = 5 := by decide +kernel
set_option maxRecDepth 100000 in
set_option maxHeartbeats 4000000 in
theorem awake13_any (w : World) (hwd : Tab w 0 (u32s Sha.words)) : Calls Tryd.prog 7 #[] w fun e w' => e = .returned (.bool true) ∧ Below w.heap.size w w' := by
  obtain ⟨D, hD⟩ : ∃ D, D = Sha.sha (pointText 3 7) := ⟨_, rfl⟩
  have hDl : D.length = 32 := by rw [hD]; exact sha_length13 _
  obtain ⟨P, hP⟩ : ∃ P, P = pointR 3 7 := ⟨_, rfl⟩
  have hPD : placeR D = P := by rw [hD, hP]; rfl
  have HW := Lib.hid (show ∀ W, Behind w W → Tab W 0 (u32s Sha.words) from fun W h => hwd.below h hwd.lt)
  have H1 := Lib.hid (show Calls Tryd.prog 8 #[.int .i64 3, .int .i64 7] w fun e w' => e = .returned (.tuple #[.int .u64 P, .int .i64 0]) ∧ Below w.heap.size w w' from by rw [hP]; exact point_good 3 7 (by decide) (by decide) w hwd)
  have H2 := Lib.hid (show ∀ W, Calls Tryd.prog 8 #[.int .i64 7, .int .i64 0] W fun e w' => e = .returned (.tuple #[.int .u64 0, .int .i64 1]) ∧ Below W.heap.size W w' from fun W => point_bad 7 0 (by decide) W)
  have H3 := Lib.hid (show ∀ W, Behind w W → Calls Tryd.prog 17 #[.slice (some ⟨W.heap.size, 0, none⟩) 3 3] (W.alloc (.cells #[.string ⟨#[114, 105, 110, 103]⟩, .string ⟨#[1, 3]⟩, .string ⟨#[1, 7]⟩] 9)) fun e w' => e = .returned (.agg (u8s D).toArray) ∧ Below W.heap.size W w' from fun W hW => by
    rw [hD, text_37]
    exact row_three ringB [1, 3] [1, 7] (by decide) (by decide) (by decide) W (HW.out W hW))
  have HPD := Lib.hid (show ∀ W, Calls Tryd.prog 10 #[.agg (u8s D).toArray] W fun e w' => e = .returned (.int .u64 P) ∧ Below W.heap.size W w' from fun W => by rw [← hPD]; exact place_any D hDl W)
  have HP5 := Lib.hid (show ∀ W, Calls Tryd.prog 10 #[.agg (u8s key5).toArray] W fun e w' => e = .returned (.int .u64 5) ∧ Below W.heap.size W w' from fun W => by
    have h := place_any key5 rfl W
    rw [place_key5] at h
    exact h)
  have HI := Lib.hid (infoDg13 hDl)
  have HU := Lib.hid Tryd.underlying23
  have HLZ := Lib.hid (show (u8s D).length = (u8s zeroK).length by simp [u8s, hDl, zeroK])
  have HWA := Lib.hid (show ∀ (A : Option Addr) (c : Nat) W, Behind w W → EncIn encN 1 W A [4] → Calls Tryd.prog 13 #[.agg (u8s D).toArray, .slice A 1 c] W fun e w' => ∃ A' c', e = .returned (.slice A' 1 c') ∧ 1 ≤ c' ∧ EncIn encN 1 w' A' [4] ∧ Below W.heap.size W w' from fun A c W hW hE => by
    have h := walk_any D hDl A c 1 [4] W rfl hE (by decide) (HW.out W hW) 1 (by rw [walk_four]; rfl)
    rw [walk_four] at h
    exact h)
  have HWN := Lib.hid (show ∀ W, Behind w W → Calls Tryd.prog 13 #[.agg (u8s D).toArray, .slice none 0 0] W fun e w' => ∃ A' c', e = .returned (.slice A' 0 c') ∧ 0 ≤ c' ∧ EncIn encN 1 w' A' [] ∧ Below W.heap.size W w' from fun W hW => by
    have h := walk_any D hDl none 0 0 [] W rfl EncIn.nil (by decide) (HW.out W hW) 0 (by rw [walk_none]; rfl)
    rw [walk_none] at h
    exact h)
  have HOW := Lib.hid (show ∀ (A : Option Addr) (c : Nat) W, Behind w W → EncIn encN 1 W A [3] → Calls Tryd.prog 15 #[.agg (u8s D).toArray, .slice A 1 c] W fun e w' => ∃ A' c', e = .returned (.slice A' 1 c') ∧ 1 ≤ c' ∧ EncIn encN 1 w' A' [3] ∧ Below W.heap.size W w' from fun A c W hW hE => by
    have h := owns_any D hDl A c 1 [3] W rfl hE (by decide) (HW.out W hW) 1 (by rw [owns_three]; rfl)
    rw [owns_three] at h
    exact h)
  have HIN := Lib.hid (show ∀ (A B : Option Addr) (c d : Nat) (x : Int) W, EncIn encN 1 W A [x] → EncIn encN 1 W B [x] → Calls Tryd.prog 12 #[.slice A 1 c, .slice B 1 d] W fun e w' => e = .returned (.bool true) ∧ Below W.heap.size W w' from fun A B c d x W hA hB => by
    have h := ints_any A B c d [x] [x] 1 1 W rfl rfl hA hB (by decide) (by decide)
    rw [decide_eq_true rfl] at h
    exact h)
  clear hD hDl hP hPD hwd
  go_enter Tryd.func7, Tryd.ntmps7
  go_upto_region 4 with (first
    | (go_at_call 8; (with_reducible refine Calls.mono H1.out ?_); rintro e w1 ⟨rfl, hb⟩; have HB1 := Lib.hid (show Behind w w1 from hb); clear hb)
    | (go_at_call 8; (with_reducible refine Calls.mono (H2.out w1) ?_); rintro e w2 ⟨rfl, hb⟩; have HB2 := Lib.hid (Behind.trM HB1.out hb); clear hb)
    | (go_at_call 17; (with_reducible refine Calls.mono (H3.out w2 HB2.out) ?_); rintro e w3 ⟨rfl, hb⟩; have HB3 := Lib.hid (Behind.trM HB2.out hb); clear hb)
    | ((with_reducible refine wpList_allocZ (o := ⟨some 5, _, _, _, _, _⟩) 23 (u8s zeroK) rfl rfl zeroDg ?_); intro g5 w4 hg hat hb; have HAT4 := Lib.hid hat; have HBA := Lib.hid hb; have HGE := Lib.hid hg; clear hat hb hg)
    | ((with_reducible refine wpList_storeAll rfl 23 (.tmp 5) (.tmp 15) rfl g5 rfl _ _ (u8s D) HAT4.out rfl HLZ.out HI.out (u8s_oneK _) ?_); intro w5 hat hg hs; have hbb := Below.ofGrown HBA.out hg HBA.out.size (Nat.le_of_eq HGE.out.symm); have HAT5 := Lib.hid hat; have HB5 := Lib.hid (show Behind w w5 from Behind.trM HB3.out hbb); have HBw5 := Lib.hid (Behind.refl w5); clear hat hg hs hbb))
  have HS := Lib.hid (show ∀ W, Behind w5 W → W.rangeAt g5 0 (u8s D) from fun W h => (HAT5.out.below h HAT5.out.lt).all)
  go_wp2_with (first
    | (with_reducible refine wpList_loadW (o := ⟨some 20, _, _, _, _, _⟩) (by with_unfolding_all rfl) 23 (.tmp 5) rfl g5 0 (by with_unfolding_all rfl) (u8s D) _ (HS.out w5 HBw5.out) HU.out (by with_unfolding_all rfl) HI.out ?_)
    | (go_at_call 10; (with_reducible refine Calls.mono (HPD.out w5) ?_); rintro e x1 ⟨rfl, hb⟩; have HBx1 := Lib.hid (show Behind w5 x1 from hb); clear hb)
    | (with_reducible refine wpList_build (u8s key5).toArray (by with_unfolding_all rfl) 23 #[(7, .const (.int .u8 5))] rfl (built_at built_key5 (by with_unfolding_all rfl)) ?_)
    | (go_at_call 10; (with_reducible refine Calls.mono (HP5.out x1) ?_); rintro e x2 ⟨rfl, hb⟩; have HBx2 := Lib.hid (Behind.trM HBx1.out hb); clear hb)
    | (with_reducible refine wpList_loadW (o := ⟨some 34, _, _, _, _, _⟩) (by with_unfolding_all rfl) 23 (.tmp 5) rfl g5 0 (by with_unfolding_all rfl) (u8s D) _ (HS.out x2 HBx2.out) HU.out (by with_unfolding_all rfl) HI.out ?_)
    | ((with_reducible refine wpList_int1 (o := ⟨some 35, _, _, _, _, _⟩) (by with_unfolding_all rfl) (.const (.int .i64 4)) rfl 4 (by with_unfolding_all rfl) ?_); intro g35 x3 hg hb hE; have HEg35 := Lib.hid hE; have HBx3 := Lib.hid (show Behind w5 x3 from Behind.trM HBx2.out hb); clear hg hb hE)
    | (go_at_call 13; (with_reducible refine Calls.mono (HWA.out _ _ x3 (Behind.trM HB5.out HBx3.out) HEg35.out) ?_); rintro e x4 ⟨A4, c4, rfl, _, hE, hb⟩; have HE4 := Lib.hid hE; have HBx4 := Lib.hid (Behind.trM HBx3.out hb); clear hE hb)
    | ((with_reducible refine wpList_int1 (o := ⟨some 37, _, _, _, _, _⟩) (by with_unfolding_all rfl) (.const (.int .i64 4)) rfl 4 (by with_unfolding_all rfl) ?_); intro g37 x5 hg hb hE; have HEg37 := Lib.hid hE; have HBx5 := Lib.hid (show Behind w5 x5 from Behind.trM HBx4.out hb); have HE45 := Lib.hid (HE4.out.up hb); clear hg hb hE)
    | (go_at_call 12; (with_reducible refine Calls.mono (HIN.out _ _ _ _ 4 x5 HE45.out HEg37.out) ?_); rintro e x6 ⟨rfl, hb⟩; have HBx6 := Lib.hid (Behind.trM HBx5.out hb); clear hb)
    | (with_reducible refine wpList_loadW (o := ⟨some 41, _, _, _, _, _⟩) (by with_unfolding_all rfl) 23 (.tmp 5) rfl g5 0 (by with_unfolding_all rfl) (u8s D) _ (HS.out x6 HBx6.out) HU.out (by with_unfolding_all rfl) HI.out ?_)
    | (go_at_call 13; (with_reducible refine Calls.mono (HWN.out x6 (Behind.trM HB5.out HBx6.out)) ?_); rintro e x7 ⟨A7, c7, rfl, _, _, hb⟩; have HBx7 := Lib.hid (Behind.trM HBx6.out hb); clear hb)
    | (with_reducible refine wpList_loadW (o := ⟨some 47, _, _, _, _, _⟩) (by with_unfolding_all rfl) 23 (.tmp 5) rfl g5 0 (by with_unfolding_all rfl) (u8s D) _ (HS.out x7 HBx7.out) HU.out (by with_unfolding_all rfl) HI.out ?_)
    | ((with_reducible refine wpList_int1 (o := ⟨some 48, _, _, _, _, _⟩) (by with_unfolding_all rfl) (.const (.int .i64 3)) rfl 3 (by with_unfolding_all rfl) ?_); intro g48 x8 hg hb hE; have HEg48 := Lib.hid hE; have HBx8 := Lib.hid (show Behind w5 x8 from Behind.trM HBx7.out hb); clear hg hb hE)
    | (go_at_call 15; (with_reducible refine Calls.mono (HOW.out _ _ x8 (Behind.trM HB5.out HBx8.out) HEg48.out) ?_); rintro e x9 ⟨A9, c9, rfl, _, hE, hb⟩; have HE9 := Lib.hid hE; have HBx9 := Lib.hid (Behind.trM HBx8.out hb); clear hE hb)
    | ((with_reducible refine wpList_int1 (o := ⟨some 50, _, _, _, _, _⟩) (by with_unfolding_all rfl) (.const (.int .i64 3)) rfl 3 (by with_unfolding_all rfl) ?_); intro g50 xa hg hb hE; have HEg50 := Lib.hid hE; have HBxa := Lib.hid (show Behind w5 xa from Behind.trM HBx9.out hb); have HE9a := Lib.hid (HE9.out.up hb); clear hg hb hE)
    | (go_at_call 12; (with_reducible refine Calls.mono (HIN.out _ _ _ _ 3 xa HE9a.out HEg50.out) ?_); rintro e xb ⟨rfl, hb⟩; have HBz := Lib.hid (Behind.trM HBxa.out hb); clear hb))
  go_ret
  exact ⟨by first | rfl | simp, Behind.trM HB5.out HBz.out⟩
end Go.Proofs.YtdfeiajdmmlllaaDoor
