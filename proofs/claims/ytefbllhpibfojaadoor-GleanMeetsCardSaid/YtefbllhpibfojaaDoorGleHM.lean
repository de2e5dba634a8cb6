/- Layer 16: awake answers true. -/
import Derived.Test.YtefbllhpibfojaaDoorGleBM
import Derived.Test.YtefbllhpibfojaaDoorGleGM
namespace Go.Proofs.YtefbllhpibfojaaDoor
open Go.Proofs Stab Go.Shelf Go.RowKit Go.Lib Go.Sort

def keyA : List UInt8 := 1 :: List.replicate 31 0
def keyB : List UInt8 := 2 :: List.replicate 31 0
def recA : Rec := ⟨keyA, 0, zero32', rfl, rfl, by omega⟩
def recB : Rec := ⟨keyB, 0, zero32', rfl, rfl, by omega⟩
theorem built_keyA : Tryd.prog.built 24 [(0, .int .u8 1)] = some (u8s keyA).toArray := by kernel_rfl
theorem built_keyB : Tryd.prog.built 24 [(0, .int .u8 2)] = some (u8s keyB).toArray := by kernel_rfl
theorem built_recA : Tryd.prog.built 38 [(0, .agg (u8s keyA).toArray)] = some (encR recA).toArray := by kernel_rfl
theorem built_recB : Tryd.prog.built 38 [(0, .agg (u8s keyB).toArray)] = some (encR recB).toArray := by kernel_rfl
theorem inB_zero {r : Rng} (hg : goodB r = true) (hd : r.depth = 0) (hp : r.pref = 0) (k : List UInt8) : inB r k = true := by
  have h := first16_lt k
  unfold inB
  rw [hg, hd, hp, Bool.true_and, decide_eq_true_eq]
  show (first16 k : Int) / 65536 = 0
  omega
theorem good_bare00 : goodB (bare r00) = true := by decide +kernel
theorem items_zero {r : Rng} (hg : goodB r = true) (hd : r.depth = 0) (hp : r.pref = 0) (x : Rec) : itemsR r [x] = [x] := by
  unfold itemsR
  rw [sortR_one, List.filter_cons, inB_zero hg hd hp]
  rfl
theorem ofr_one (x : Rec) : (ofR r00 [x]).depth = 0 ∧ (ofR r00 [x]).pref = 0 ∧ (ofR r00 [x]).count = 1 ∧ (ofR r00 [x]).sum = Sha.sha (textR [x]) ∧ goodB (ofR r00 [x]) = true := by
  have hi := items_zero good_bare00 rfl rfl x
  have hg : goodB (ofR r00 [x]) = true := goodB_ofR place00 (by simp)
  refine ⟨rfl, rfl, ?_, ?_, hg⟩
  · rw [count_ofR _ _ (by simp), hi]
    rfl
  · show Sha.sha (Sap.row ((itemsR (bare r00) [x]).map rowB)) = _
    rw [hi]
    rfl
theorem ofr_again (l m : List Rec) : ofR (ofR r00 l) m = ofR r00 m := rfl
theorem sums_differ : Sha.sha (textR [recA]) ≠ Sha.sha (textR [recB]) := by decide +kernel
theorem ofr_differ : ofR r00 [recB] ≠ ofR r00 [recA] := fun e => by
  have h := congrArg Rng.sum e
  rw [(ofr_one recA).2.2.2.1, (ofr_one recB).2.2.2.1] at h
  exact sums_differ h.symm
theorem fold_B : foldA [ofR r00 [recA]] [recB] = ([], [recB], [ofR r00 [recB]]) := by
  have hA := ofr_one recA
  have hB := ofr_one recB
  show stepA [recB] ([], [], []) (ofR r00 [recA]) = _
  have hs : smallB (ofR (ofR r00 [recA]) [recB]) (ofR r00 [recA]) = true := by
    rw [ofr_again]
    unfold smallB
    rw [hA.2.2.1, hB.2.2.1]
    rfl
  rw [stepA_small hA.2.2.2.2 (by rw [ofr_again]; exact ofr_differ) hs (by rw [hA.2.2.1]; decide), items_zero hA.2.2.2.2 hA.1 hA.2.1, ofr_again]
  rfl
theorem fold_A : foldA [ofR r00 [recA]] [recA] = ([], [], []) := by
  show stepA [recA] ([], [], []) (ofR r00 [recA]) = _
  rw [stepA_same (ofr_again _ _)]
theorem fill_A : fillR [ofR r00 [recB]] [recB] [recA] = [recA] := by
  have hB := ofr_one recB
  have hg : goodsF [ofR r00 [recB]] = [ofR r00 [recB]] := by
    unfold goodsF
    rw [List.filter_cons, hB.2.2.2.2]
    rfl
  unfold fillR
  rw [hg, sortR_one, List.filter_cons]
  have ho : outF [recB] [ofR r00 [recB]] recA = false := by
    unfold outF
    have hne : decide (recA = recB) = false := decide_eq_false fun e => absurd (congrArg Rec.key e) (by decide)
    simp [hne, inB_zero hB.2.2.2.2 hB.1 hB.2.1]
  rw [ho]
  rfl
set_option maxRecDepth 100000 in
set_option maxHeartbeats 4000000 in
theorem awake16_any (w : World) (hwd : Tab w 0 (u32s Sha.words)) : Calls Tryd.prog 31 #[] w fun e w' => e = .returned (.bool true) ∧ Below w.heap.size w w' := by
  have HW := Lib.hid (show ∀ W, Below w.heap.size w W → Tab W 0 (u32s Sha.words) from fun W h => hwd.below h hwd.lt)
  have HLR := Lib.hid (show ∀ x, (Tryd.prog.info? 38).map (·.size) = some (encR x).length from fun x => by rw [encR_len]; exact infoRec)
  have HLM := Lib.hid (show ∀ x y, (encR x).length = (encR y).length from fun x y => by rw [encR_len, encR_len])
  have HUI := Lib.hid Tryd.underlying3
  obtain ⟨zA, hzA⟩ : ∃ z, z = ofR r00 [recA] := ⟨_, rfl⟩
  obtain ⟨zB, hzB⟩ : ∃ z, z = ofR r00 [recB] := ⟨_, rfl⟩
  have HZA := Lib.hid hzA
  have HCT := Lib.hid (show zA.count = 1 by rw [hzA]; exact (ofr_one recA).2.2.1)
  have HAB := Lib.hid (show ∀ T A ct W, Below w.heap.size w W → EncIn encG 35 W T [zA] → 1 ≤ ct → EncIn encR 65 W A [recB] → Calls Tryd.prog 32 #[.slice T 1 ct, .slice A 1 1] W fun e w' => ∃ A4 A5 A6 c4 c5 c6, e = .returned (.tuple #[.slice A4 0 c4, .slice A5 1 c5, .slice A6 1 c6]) ∧ EncIn encG 35 w' A4 [] ∧ EncIn encR 65 w' A5 [recB] ∧ EncIn encG 35 w' A6 [zB] ∧ 0 ≤ c4 ∧ 1 ≤ c5 ∧ 1 ≤ c6 ∧ Below W.heap.size W w' from fun T A ct W hW hT hc hA => by
    have hf : foldA [zA] [recB] = ([], [recB], [zB]) := by rw [hzA, hzB]; exact fold_B
    exact answer_any T ct 1 [zA] A 1 1 [recB] W rfl hc hT (by decide) rfl hA (by decide) (HW.out W hW) [] [recB] [zB] (by rw [hf]; rfl) (by rw [hf]; rfl) (by rw [hf]; rfl) 0 1 1 rfl rfl rfl)
  have HAA := Lib.hid (show ∀ T A ct W, Below w.heap.size w W → EncIn encG 35 W T [zA] → 1 ≤ ct → EncIn encR 65 W A [recA] → Calls Tryd.prog 32 #[.slice T 1 ct, .slice A 1 1] W fun e w' => ∃ A4 A5 A6 c4 c5 c6, e = .returned (.tuple #[.slice A4 0 c4, .slice A5 0 c5, .slice A6 0 c6]) ∧ EncIn encG 35 w' A4 [] ∧ EncIn encR 65 w' A5 [] ∧ EncIn encG 35 w' A6 [] ∧ 0 ≤ c4 ∧ 0 ≤ c5 ∧ 0 ≤ c6 ∧ Below W.heap.size W w' from fun T A ct W hW hT hc hA => by
    have hf : foldA [zA] [recA] = ([], [], []) := by rw [hzA]; exact fold_A
    exact answer_any T ct 1 [zA] A 1 1 [recA] W rfl hc hT (by decide) rfl hA (by decide) (HW.out W hW) [] [] [] (by rw [hf]; rfl) (by rw [hf]; rfl) (by rw [hf]; rfl) 0 0 0 rfl rfl rfl)
  have HFL := Lib.hid (show ∀ B cb T ct A W, EncIn encG 35 W B [zB] → EncIn encR 65 W T [recB] → EncIn encR 65 W A [recA] → Calls Tryd.prog 36 #[.slice B 1 cb, .slice T 1 ct, .slice A 1 1] W fun e w' => ∃ A' c', e = .returned (.slice A' 1 c') ∧ 1 ≤ c' ∧ EncIn encR 65 w' A' [recA] ∧ Below W.heap.size W w' from fun B cb T ct A W hB hT hA => by
    have hf : fillR [zB] [recB] [recA] = [recA] := by rw [hzB]; exact fill_A
    have h := fill_any B cb 1 [zB] T ct 1 [recB] A 1 1 [recA] W rfl hB (by decide) rfl hT (by decide) rfl hA (by decide) 1 (by rw [hf]; rfl)
    rw [hf] at h
    exact h)
  have HBG := Lib.hid (show ∀ A W, Below w.heap.size w W → EncIn encR 65 W A [recA] → Calls Tryd.prog 34 #[.slice A 1 1] W fun e w' => ∃ A', e = .returned (.slice A' 1 1) ∧ EncIn encG 35 w' A' [zA] ∧ Below W.heap.size W w' from fun A W hW hA => by rw [hzA]; exact begin_any A 1 1 [recA] W rfl hA (by decide) (HW.out W hW))
  have HBw := Lib.hid (show Below w.heap.size w w from Below.refl _ _)
  clear hwd hzA hzB
  go_enter Tryd.func31, Tryd.ntmps31
  go_upto_region 7 with (first
    | (with_reducible refine wpList_build (u8s keyA).toArray (by with_unfolding_all rfl) 24 #[(0, .const (.int .u8 1))] rfl (built_at built_keyA (by with_unfolding_all rfl)) ?_)
    | (with_reducible refine wpList_build (encR recA).toArray (by with_unfolding_all rfl) 38 #[(0, .tmp 11)] rfl (built_at built_recA (by with_unfolding_all rfl)) ?_)
    | ((with_reducible refine wpList_allocZ (o := ⟨some 1, _, _, _, _, _⟩) 38 (encR default) rfl rfl zeroRec ?_); intro g1 v1 hg hat hb; have HAT1 := Lib.hid hat; have HBA1 := Lib.hid hb; have HGE1 := Lib.hid hg; clear hat hb hg)
    | ((with_reducible refine wpList_storeAll rfl 38 (.tmp 1) (.tmp 12) rfl g1 rfl _ _ (encR recA) HAT1.out rfl (HLM.out _ _) (HLR.out _) (encR_one _) ?_); intro v2 hat hg hs; have hbb := Below.ofGrown HBA1.out hg HBA1.out.size (Nat.le_of_eq HGE1.out.symm); have HZ1v2 := Lib.hid hat; have HBv2 := Lib.hid (HBw.out.trans (hbb.mono HBw.out.size)); clear hat hg hs hbb)
    | (with_reducible refine wpList_build (u8s keyB).toArray (by with_unfolding_all rfl) 24 #[(0, .const (.int .u8 2))] rfl (built_at built_keyB (by with_unfolding_all rfl)) ?_)
    | (with_reducible refine wpList_build (encR recB).toArray (by with_unfolding_all rfl) 38 #[(0, .tmp 13)] rfl (built_at built_recB (by with_unfolding_all rfl)) ?_)
    | ((with_reducible refine wpList_allocZ (o := ⟨some 2, _, _, _, _, _⟩) 38 (encR default) rfl rfl zeroRec ?_); intro g2 v3 hg hat hb; have HAT2 := Lib.hid hat; have HBA2 := Lib.hid hb; have HGE2 := Lib.hid hg; clear hat hb hg)
    | ((with_reducible refine wpList_storeAll rfl 38 (.tmp 2) (.tmp 14) rfl g2 rfl _ _ (encR recB) HAT2.out rfl (HLM.out _ _) (HLR.out _) (encR_one _) ?_); intro v4 hat hg hs; have hbb := Below.ofGrown HBA2.out hg HBA2.out.size (Nat.le_of_eq HGE2.out.symm); have HZ2v4 := Lib.hid hat; have HBv4 := Lib.hid (HBv2.out.trans (hbb.mono HBv2.out.size)); have HZ1v4 := Lib.hid (HZ1v2.out.below hbb HZ1v2.out.lt); clear hat hg hs hbb)
    | (with_reducible refine wpList_loadAll rfl 38 (.tmp 1) rfl g1 rfl _ _ _ HZ1v4.out Tryd.underlying38 rfl (HLR.out _) ?_)
    | ((with_reducible refine wpList_one (by with_unfolding_all rfl) 22 38 65 recA (.tmp 15) rfl (by with_unfolding_all rfl) Tryd.underlying22 info2Rec (by decide) (by decide) (encR_len recA) ?_); intro g16 v5 hg hb hE; have HEa := Lib.hid hE; have HBv5 := Lib.hid (HBv4.out.trans (hb.mono HBv4.out.size)); have HZ1v5 := Lib.hid (HZ1v4.out.below hb HZ1v4.out.lt); have HZ2v5 := Lib.hid (HZ2v4.out.below hb HZ2v4.out.lt); clear hg hb hE)
    | (go_at_call 34; (with_reducible refine Calls.mono (HBG.out _ _ HBv5.out HEa.out) ?_); rintro e x3 ⟨A3, rfl, hE, hb⟩; have HE3 := Lib.hid hE; have HBx3 := Lib.hid (HBv5.out.trans (hb.mono HBv5.out.size)); have HZ1x3 := Lib.hid (HZ1v5.out.below hb HZ1v5.out.lt); have HZ2x3 := Lib.hid (HZ2v5.out.below hb HZ2v5.out.lt); have HB3x3 := Lib.hid (show Below x3.heap.size x3 x3 from Below.refl _ _); clear hE hb)
    | (with_reducible refine wpList_loadAll rfl 38 (.tmp 2) rfl g2 rfl _ _ _ HZ2x3.out Tryd.underlying38 rfl (HLR.out _) ?_)
    | ((with_reducible refine wpList_one (by with_unfolding_all rfl) 22 38 65 recB (.tmp 20) rfl (by with_unfolding_all rfl) Tryd.underlying22 info2Rec (by decide) (by decide) (encR_len recB) ?_); intro g21 v6 hg hb hE; have HEb := Lib.hid hE; have HBv6 := Lib.hid (HBx3.out.trans (hb.mono HBx3.out.size)); have HZ1v6 := Lib.hid (HZ1x3.out.below hb HZ1x3.out.lt); have HZ2v6 := Lib.hid (HZ2x3.out.below hb HZ2x3.out.lt); have HB3v6 := Lib.hid (HB3x3.out.trans (hb.mono HB3x3.out.size)); clear hg hb hE)
    | (go_at_call 32; (with_reducible refine Calls.mono (HAB.out _ _ _ _ HBv6.out (HE3.out.up HB3v6.out) (Nat.le_refl _) HEb.out) ?_); rintro e x4 ⟨A4, A5, A6, c4, c5, c6, rfl, _, hE5, hE6, _, _, _, hb⟩; have HE5 := Lib.hid hE5; have HE6 := Lib.hid hE6; have HBx4 := Lib.hid (HBv6.out.trans (hb.mono HBv6.out.size)); have HZ1x4 := Lib.hid (HZ1v6.out.below hb HZ1v6.out.lt); have HZ2x4 := Lib.hid (HZ2v6.out.below hb HZ2v6.out.lt); have HB3x4 := Lib.hid (HB3v6.out.trans (hb.mono HB3v6.out.size)); have HB5x4 := Lib.hid (show Below x4.heap.size x4 x4 from Below.refl _ _); clear hE5 hE6 hb)
    | (with_reducible refine wpList_loadAll rfl 38 (.tmp 1) rfl g1 rfl _ _ _ HZ1x4.out Tryd.underlying38 rfl (HLR.out _) ?_)
    | ((with_reducible refine wpList_one (by with_unfolding_all rfl) 22 38 65 recA (.tmp 28) rfl (by with_unfolding_all rfl) Tryd.underlying22 info2Rec (by decide) (by decide) (encR_len recA) ?_); intro g29 v7 hg hb hE; have HEc := Lib.hid hE; have HBv7 := Lib.hid (HBx4.out.trans (hb.mono HBx4.out.size)); have HZ1v7 := Lib.hid (HZ1x4.out.below hb HZ1x4.out.lt); have HZ2v7 := Lib.hid (HZ2x4.out.below hb HZ2x4.out.lt); have HB3v7 := Lib.hid (HB3x4.out.trans (hb.mono HB3x4.out.size)); have HB5v7 := Lib.hid (HB5x4.out.trans (hb.mono HB5x4.out.size)); clear hg hb hE)
    | (go_at_call 36; (with_reducible refine Calls.mono (HFL.out _ _ _ _ _ _ (HE6.out.up HB5v7.out) (HE5.out.up HB5v7.out) HEc.out) ?_); rintro e x5 ⟨A7, c7, rfl, _, hE, hb⟩; have HE7 := Lib.hid hE; have HBx5 := Lib.hid (HBv7.out.trans (hb.mono HBv7.out.size)); have HZ1x5 := Lib.hid (HZ1v7.out.below hb HZ1v7.out.lt); have HZ2x5 := Lib.hid (HZ2v7.out.below hb HZ2v7.out.lt); have HB3x5 := Lib.hid (HB3v7.out.trans (hb.mono HB3v7.out.size)); have HB5x5 := Lib.hid (HB5v7.out.trans (hb.mono HB5v7.out.size)); have HB7x5 := Lib.hid (show Below x5.heap.size x5 x5 from Below.refl _ _); clear hE hb)
    | (with_reducible refine wpList_loadAll rfl 38 (.tmp 1) rfl g1 rfl _ _ _ HZ1x5.out Tryd.underlying38 rfl (HLR.out _) ?_)
    | ((with_reducible refine wpList_one (by with_unfolding_all rfl) 22 38 65 recA (.tmp 33) rfl (by with_unfolding_all rfl) Tryd.underlying22 info2Rec (by decide) (by decide) (encR_len recA) ?_); intro g34 v8 hg hb hE; have HEd := Lib.hid hE; have HBv8 := Lib.hid (HBx5.out.trans (hb.mono HBx5.out.size)); have HZ1v8 := Lib.hid (HZ1x5.out.below hb HZ1x5.out.lt); have HZ2v8 := Lib.hid (HZ2x5.out.below hb HZ2x5.out.lt); have HB3v8 := Lib.hid (HB3x5.out.trans (hb.mono HB3x5.out.size)); have HB5v8 := Lib.hid (HB5x5.out.trans (hb.mono HB5x5.out.size)); have HB7v8 := Lib.hid (HB7x5.out.trans (hb.mono HB7x5.out.size)); clear hg hb hE)
    | (go_at_call 32; (with_reducible refine Calls.mono (HAA.out _ _ _ _ HBv8.out (HE3.out.up HB3v8.out) (Nat.le_refl _) HEd.out) ?_); rintro e x6 ⟨A8, A9, A10, c8, c9, c10, rfl, _, _, _, _, _, _, hb⟩; have HBx6 := Lib.hid (HBv8.out.trans (hb.mono HBv8.out.size)); have HZ1x6 := Lib.hid (HZ1v8.out.below hb HZ1v8.out.lt); have HZ2x6 := Lib.hid (HZ2v8.out.below hb HZ2v8.out.lt); have HB3x6 := Lib.hid (HB3v8.out.trans (hb.mono HB3v8.out.size)); have HB5x6 := Lib.hid (HB5v8.out.trans (hb.mono HB5v8.out.size)); have HB7x6 := Lib.hid (HB7v8.out.trans (hb.mono HB7v8.out.size)); have HB37 := Lib.hid HB3x6.out; have HB57 := Lib.hid HB5x6.out; have HB77 := Lib.hid HB7x6.out; clear hb))
  obtain ⟨g3, o3, rfl, hl3, hr3⟩ := (HE3.out.up HB37.out).at (i := 0) (by simp)
  obtain ⟨g5, o5, rfl, hl5, hr5⟩ := (HE5.out.up HB57.out).at (i := 0) (by simp)
  obtain ⟨g7, o7, rfl, hl7, hr7⟩ := (HE7.out.up HB77.out).at (i := 0) (by simp)
  rw [Nat.zero_mul, Nat.add_zero] at hr3 hr5 hr7
  have HR3 := Lib.hid (show ∀ W, Behind x6 W → W.cell? ⟨g3, o3 + 2, none⟩ = some (.int .i64 1) from fun W h => by have h2 : W.cell? ⟨g3, o3 + 2, none⟩ = some (.int .i64 zA.count) := (range_below' hr3 h hl3) 2 _ rfl; rw [HCT.out] at h2; exact h2)
  have HR5 := Lib.hid (show ∀ W, Behind x6 W → W.rangeAt g5 o5 (encR recB) from fun W h => range_below' hr5 h hl5)
  have HR7 := Lib.hid (show ∀ W, Behind x6 W → W.rangeAt g7 o7 (encR recA) from fun W h => range_below' hr7 h hl7)
  have HS1 := Lib.hid (show ∀ W, Behind x6 W → W.rangeAt g1 0 (encR recA) from fun W h => (HZ1x6.out.below h HZ1x6.out.lt).all)
  have HS2 := Lib.hid (show ∀ W, Behind x6 W → W.rangeAt g2 0 (encR recB) from fun W h => (HZ2x6.out.below h HZ2x6.out.lt).all)
  have HQA := Lib.hid (show ∀ w, (binOp .eql 38 (.agg (encR recA).toArray) (.agg (encR recA).toArray)).run Tryd.prog w = .ok (.bool true) w from fun w => by have h := run_eql_rec w recA recA; rw [decide_eq_true rfl] at h; exact h)
  have HQB := Lib.hid (show ∀ w, (binOp .eql 38 (.agg (encR recB).toArray) (.agg (encR recB).toArray)).run Tryd.prog w = .ok (.bool true) w from fun w => by have h := run_eql_rec w recB recB; rw [decide_eq_true rfl] at h; exact h)
  clear hl3 hr3 hl5 hr5 hl7 hr7
  refine wp_region_class (Behind x6) (by kernel_rfl) (by kernel_rfl) (Below.refl _ _).drew ?_
  iterate 60 (first
    | go_big_quiet_skip
    | ((with_reducible refine wpQuiet_load1 (.int .i64 1) (by with_unfolding_all rfl) 3 _ (by with_unfolding_all rfl) .i64 HUI.out g3 (o3 + 2) (by with_unfolding_all rfl) (fun w h => HR3.out w h) ?_); simp only [Act.put, List.setIfInBounds_toArray, List.set_cons_zero, List.set_cons_succ])
    | ((with_reducible refine wpQuiet_loadAll (by with_unfolding_all rfl) 38 _ (by with_unfolding_all rfl) g5 (o5) (by with_unfolding_all rfl) (encR recB) _ (fun w h => HR5.out w h) Tryd.underlying38 (by with_unfolding_all rfl) (HLR.out _) ?_); simp only [Act.put, List.setIfInBounds_toArray, List.set_cons_zero, List.set_cons_succ])
    | ((with_reducible refine wpQuiet_loadAll (by with_unfolding_all rfl) 38 _ (by with_unfolding_all rfl) g7 (o7) (by with_unfolding_all rfl) (encR recA) _ (fun w h => HR7.out w h) Tryd.underlying38 (by with_unfolding_all rfl) (HLR.out _) ?_); simp only [Act.put, List.setIfInBounds_toArray, List.set_cons_zero, List.set_cons_succ])
    | ((with_reducible refine wpQuiet_loadAll (by with_unfolding_all rfl) 38 _ (by with_unfolding_all rfl) g1 (0) (by with_unfolding_all rfl) (encR recA) _ (fun w h => HS1.out w h) Tryd.underlying38 (by with_unfolding_all rfl) (HLR.out _) ?_); simp only [Act.put, List.setIfInBounds_toArray, List.set_cons_zero, List.set_cons_succ])
    | ((with_reducible refine wpQuiet_loadAll (by with_unfolding_all rfl) 38 _ (by with_unfolding_all rfl) g2 (0) (by with_unfolding_all rfl) (encR recB) _ (fun w h => HS2.out w h) Tryd.underlying38 (by with_unfolding_all rfl) (HLR.out _) ?_); simp only [Act.put, List.setIfInBounds_toArray, List.set_cons_zero, List.set_cons_succ])
    | ((with_reducible refine wpQuiet_bin (by with_unfolding_all rfl) .eql 38 _ _ _ (by with_unfolding_all rfl) (.agg (encR recA).toArray) (.agg (encR recA).toArray) (.bool true) (by with_unfolding_all rfl) (by with_unfolding_all rfl) (fun w => run_eqGuard_rec w _ _ _ _ _) HQA.out ?_); simp only [Act.put, List.setIfInBounds_toArray, List.set_cons_zero, List.set_cons_succ])
    | ((with_reducible refine wpQuiet_bin (by with_unfolding_all rfl) .eql 38 _ _ _ (by with_unfolding_all rfl) (.agg (encR recB).toArray) (.agg (encR recB).toArray) (.bool true) (by with_unfolding_all rfl) (by with_unfolding_all rfl) (fun w => run_eqGuard_rec w _ _ _ _ _) HQB.out ?_); simp only [Act.put, List.setIfInBounds_toArray, List.set_cons_zero, List.set_cons_succ])
    | (go_big_quiet_step (exact fun _ => rfl)))
  with_reducible refine wpQuiet_nil ?_
  intro w3 hw3
  have HBw3 := Lib.hid (show Below x6.heap.size x6 w3 from hw3)
  clear hw3
  go_wp2_with fail
  go_ret
  exact ⟨rfl, HBx6.out.trans (HBw3.out.mono HBx6.out.size)⟩
end Go.Proofs.YtefbllhpibfojaaDoor
