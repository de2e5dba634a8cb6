/- HedgeParts: the walk. -/
import Derived.Test.YtefbllhpibfojaaDoorPrtPM
import Derived.Test.YtefbllhpibfojaaDoorRecTM
import Derived.Test.YtefbllhpibfojaaDoorRefRM
namespace Go.Proofs.YtefbllhpibfojaaDoor
open Go.Proofs Stab Go.Shelf Go.RowKit Go.Lib Go.Sort

theorem Behind.tr {a b c : World} (h : Behind a b) (k : Behind b c) : Behind a c := Below.trans h (Below.mono k (Below.size h))
set_option maxRecDepth 100000 in
set_option maxHeartbeats 16000000 in
theorem hparts_any (A : Option Addr) (c : Nat) (l : List Rec) (r : Rng) (k : List UInt8) (hk : k.length = 32) (w : World) (hE : EncIn encR 65 w A l) (_hlc : l.length ≤ c) (hcm : c ≤ maxLen) (_ : A = none → c = 0) (hwd : Tab w 0 (u32s Sha.words)) :
    Calls Tryd.prog 7 #[.slice A l.length c, .agg (encG r).toArray, .agg (u8s k).toArray] w fun e w' => e = .returned (.bool true) ∧ Below w.heap.size w w' := by
  have hn63 : l.length ≤ 9223372036854775807 := by unfold maxLen at hcm; omega
  have hr0 : At (w.alloc (.cells (encG r).toArray 26)) w.heap.size 26 (encG r) := At.new w _ _
  have hr1 := hr0.alloc (.cells (u8s k).toArray 24)
  have hk0 : At ((w.alloc (.cells (encG r).toArray 26)).alloc (.cells (u8s k).toArray 24)) (w.heap.size + 1) 24 (u8s k) := by
    have := At.new (w.alloc (.cells (encG r).toArray 26)) 24 (u8s k)
    simpa using this
  have hb0 : Below w.heap.size w ((w.alloc (.cells (encG r).toArray 26)).alloc (.cells (u8s k).toArray 24)) := ((Below.refl _ _).alloc (Nat.le_refl _) _).alloc (by simp) _
  have HRw0 := Lib.hid hr1
  have HKw0 := Lib.hid hk0
  have HBw0 := Lib.hid hb0
  have HE := Lib.hid hE
  have HW := Lib.hid hwd
  have HUD := Lib.hid Tryd.underlying24
  have HUI := Lib.hid Tryd.underlying3
  have HDG := Lib.hid (show ∀ l : List UInt8, l.length = 32 → (Tryd.prog.info? 24).map (·.size) = some (u8s l).length from fun l hl => by rw [u8s_length, hl]; exact infoDg)
  have HLG := Lib.hid (show ∀ x, (Tryd.prog.info? 26).map (·.size) = some (encG x).length from fun x => by rw [encG_len]; exact infoRng)
  have HLL := Lib.hid (show ∀ x y, (encG x).length = (encG y).length from fun x y => by rw [encG_len, encG_len])
  have HK := Lib.hid hk
  clear hE hwd hcm _hlc hr0 hr1 hk0 hb0 hk
  obtain ⟨n, hn⟩ : ∃ n, n = l.length := ⟨_, rfl⟩
  rw [← hn] at hn63 ⊢
  have HN := Lib.hid hn
  clear hn
  go_enter Tryd.func7, Tryd.ntmps7
  go_upto_region 1 with (fail)
  obtain ⟨g4, hg4⟩ : ∃ g, g = w.heap.size := ⟨_, rfl⟩
  obtain ⟨g5, hg5⟩ : ∃ g, g = w.heap.size + 1 := ⟨_, rfl⟩
  rw [← hg5] at HKw0 ⊢
  rw [← hg4] at HRw0 ⊢
  clear hg4 hg5
  generalize (w.alloc (.cells (encG r).toArray 26)).alloc (.cells (u8s k).toArray 24) = w0 at HRw0 HKw0 HBw0 ⊢
  go_upto_region 3 with ((go_at_call 13; (with_reducible refine Calls.mono (awake_any w0 (HW.out.below HBw0.out HW.out.lt)) ?_); rintro e w1 ⟨rfl, hb⟩; have HBw1 := Lib.hid (HBw0.out.trans (hb.mono HBw0.out.size)); have HRw1 := Lib.hid (HRw0.out.below hb HRw0.out.lt); have HKw1 := Lib.hid (HKw0.out.below hb HKw0.out.lt); clear hb))
  have HGD := Lib.hid (show ∀ W, Calls Tryd.prog 14 #[.agg (encG r).toArray] W fun e w' => e = .returned (.bool (goodB r)) ∧ Below W.heap.size W w' from fun W => good_any r W)
  by_cases h80 : 80 < n
  · have h80z : (80 : Int) < (n : Int) := by omega
    go_wp2_with fail
    go_ret
    exact ⟨rfl, HBw1.out⟩
  have h80z : ¬ (80 : Int) < (n : Int) := by omega
  cases hg : goodB r with
  | false =>
    rw [hg] at HGD
    clear hg
    go_wp2_with (first
      | (with_reducible refine wpList_loadW (by with_unfolding_all rfl) 26 (.tmp 4) rfl g4 0 (by with_unfolding_all rfl) (encG r) _ (HRw1.out.all) Tryd.underlying26 (by with_unfolding_all rfl) (HLG.out _) ?_)
      | (go_at_call 14; (with_reducible refine Calls.mono (HGD.out w1) ?_); rintro e w2 ⟨rfl, hb⟩; have HBw2 := Lib.hid (HBw1.out.trans (hb.mono HBw1.out.size)); have HRw2 := Lib.hid (HRw1.out.below hb HRw1.out.lt); have HKw2 := Lib.hid (HKw1.out.below hb HKw1.out.lt); clear hb))
    go_ret
    exact ⟨rfl, HBw2.out⟩
  | true =>
  rw [hg] at HGD
  have HG := Lib.hid hg
  have hpl : placeB r.depth r.pref = true := by unfold goodB at hg; rw [Bool.and_eq_true, Bool.and_eq_true] at hg; exact hg.1.1
  have HPL := Lib.hid hpl
  clear hpl
  by_cases hd8 : r.depth = 8
  · have HPB := Lib.hid (show ∀ W, Calls Tryd.prog 24 #[.agg (encG r).toArray, .slice A n c] W fun e w' => e = .returned (.tuple #[.slice none 0 0, .int .i64 1]) ∧ Below W.heap.size W w' from fun W => parts_bad r (.inr hd8) A n c W)
    clear hg
    go_wp2_with (first
      | (with_reducible refine wpList_loadW (by with_unfolding_all rfl) 26 (.tmp 4) rfl g4 0 (by with_unfolding_all rfl) (encG r) _ (HRw1.out.all) Tryd.underlying26 (by with_unfolding_all rfl) (HLG.out _) ?_)
      | (go_at_call 14; (with_reducible refine Calls.mono (HGD.out w1) ?_); rintro e w2 ⟨rfl, hb⟩; have HBw2 := Lib.hid (HBw1.out.trans (hb.mono HBw1.out.size)); have HRw2 := Lib.hid (HRw1.out.below hb HRw1.out.lt); have HKw2 := Lib.hid (HKw1.out.below hb HKw1.out.lt); clear hb)
      | (with_reducible refine wpList_loadW (by with_unfolding_all rfl) 26 (.tmp 4) rfl g4 0 (by with_unfolding_all rfl) (encG r) _ (HRw2.out.all) Tryd.underlying26 (by with_unfolding_all rfl) (HLG.out _) ?_)
      | (go_at_call 24; (with_reducible refine Calls.mono (HPB.out w2) ?_); rintro e w3 ⟨rfl, hb⟩; have HBw3 := Lib.hid (HBw2.out.trans (hb.mono HBw2.out.size)); have HRw3 := Lib.hid (HRw2.out.below hb HRw2.out.lt); have c3a := HRw3.out.depth; clear hb))
    go_ret
    exact ⟨rfl, HBw3.out⟩
  have hdb := good_bounds hg hd8
  have hd0 := hdb.1
  have hd7 := hdb.2.1
  have HD8 := Lib.hid hd8
  have HPG := Lib.hid (show ∀ W, Below w.heap.size w W → Calls Tryd.prog 24 #[.agg (encG r).toArray, .slice A n c] W fun e w' => ∃ A' c', e = .returned (.tuple #[.slice A' 4 c', .int .i64 0]) ∧ EncIn encG 35 w' A' (partsR r l) ∧ Below W.heap.size W w' from fun W hW => by
    rw [HN.out]
    refine (parts_good r hg hd8 A c l W (HE.out.up hW) (by have := HN.out; omega) (HW.out.below hW HW.out.lt)).mono ?_
    rintro e w' ⟨v, rfl, hO, hb⟩
    obtain ⟨A', c', rfl, _, hE'⟩ := hO.rows (by simp [partsR]) (fun x _ => encG_len x)
    exact ⟨A', c', rfl, hE', hb⟩)
  clear hg hdb
  go_upto_region 10 with (first
    | (with_reducible refine wpList_loadW (by with_unfolding_all rfl) 26 (.tmp 4) rfl g4 0 (by with_unfolding_all rfl) (encG r) _ (HRw1.out.all) Tryd.underlying26 (by with_unfolding_all rfl) (HLG.out _) ?_)
    | (go_at_call 14; (with_reducible refine Calls.mono (HGD.out w1) ?_); rintro e w2 ⟨rfl, hb⟩; have HBw2 := Lib.hid (HBw1.out.trans (hb.mono HBw1.out.size)); have HRw2 := Lib.hid (HRw1.out.below hb HRw1.out.lt); have HKw2 := Lib.hid (HKw1.out.below hb HKw1.out.lt); clear hb)
    | (with_reducible refine wpList_loadW (by with_unfolding_all rfl) 26 (.tmp 4) rfl g4 0 (by with_unfolding_all rfl) (encG r) _ (HRw2.out.all) Tryd.underlying26 (by with_unfolding_all rfl) (HLG.out _) ?_)
    | (go_at_call 24; (with_reducible refine Calls.mono (HPG.out _ HBw2.out) ?_); rintro e w3 ⟨A7, c7, rfl, hE, hb⟩; have HEP := Lib.hid hE; have HBw3 := Lib.hid (HBw2.out.trans (hb.mono HBw2.out.size)); have HRw3 := Lib.hid (HRw2.out.below hb HRw2.out.lt); have HKw3 := Lib.hid (HKw2.out.below hb HKw2.out.lt); have c3a := HRw3.out.depth; clear hE hb))
  have HS4 := Lib.hid (show ∀ W, Behind w3 W → At W g4 26 (encG r) from fun W h => HRw3.out.below h HRw3.out.lt)
  have HS5 := Lib.hid (show ∀ W, Behind w3 W → At W g5 24 (u8s k) from fun W h => HKw3.out.below h HKw3.out.lt)
  have HSP := Lib.hid (show ∀ W, Behind w3 W → EncIn encG 35 W A7 (partsR r l) from fun W h => HEP.out.up h)
  have HWB := Lib.hid (show ∀ W, Behind w3 W → Tab W 0 (u32s Sha.words) from fun W h => HW.out.below (Below.trans HBw3.out (Below.mono h HBw3.out.size)) HW.out.lt)
  have HEL := Lib.hid (show ∀ W, Behind w3 W → EncIn encR 65 W A l from fun W h => HE.out.up (Below.trans HBw3.out (Below.mono h HBw3.out.size)))
  have c3d : ¬ r.depth = 8 := HD8.out
  clear c3a
  go_wp2_with (first
    | ((with_reducible refine wpList_to (.slice (some ⟨w3.heap.size, 0, none⟩) 0 0) (w3.alloc (.cells #[] 38)) rfl (exec_none rfl Tryd.underlying22 sizeRec w3) ?_)))
  have hO0 := own_none (k := 65) (enc := encR) w3 38 (base := w3.heap.size) (Nat.le_refl _)
  have hb0 : Below w3.heap.size w3 (w3.alloc (.cells #[] 38)) := (Below.refl _ _).alloc (Nat.le_refl _) _
  have HO0 := Lib.hid hO0
  have HB0 := Lib.hid hb0
  clear hO0 hb0 c3d hd8
  generalize w3.alloc (.cells #[] 38) = w10 at HO0 HB0 ⊢
  go_loopg [9, 10, 11, 12] 4 (fun gg s9 s10 s11 s12 wr => ∃ (i N M : Nat) (v : Value), v = s9 ∧ s10 = .int .i64 N ∧ s11 = .int .i64 M ∧ s12 = .int .i64 i ∧ i ≤ 4 ∧ 4 - i ≤ gg ∧ Hid (N = (allR r l i).length) ∧ Hid (M = inN r l k i) ∧ Hid (Own wr w3.heap.size 38 65 v N ((allR r l i).flatMap encR)) ∧ Hid (Below w3.heap.size w3 wr))
  case atStart => exact ⟨0, 0, 0, _, rfl, rfl, rfl, rfl, by omega, by omega, (show Hid _ from (rfl : 0 = (allR r l 0).length)), (show Hid _ from (rfl : 0 = inN r l k 0)), HO0.out, HB0.out⟩
  case round =>
    obtain ⟨i, N, M, v, hv, rfl, rfl, rfl, hi4, hgg, HNN, HMM, HO, HBW⟩ := hrel
    subst hv
    have hNb : N ≤ 320 := by have h1 := allR_len r l i; have h2 := HN.out; have h3 := HNN.out; have h4 : i * l.length ≤ 4 * 80 := Nat.mul_le_mul hi4 (by omega); omega
    have hMb : M ≤ 4 := by have h1 := inN_le r l k i; have h3 := HMM.out; omega
    have HQ0 := Lib.hid (show Behind w3 wr from HBW.out)
    by_cases hlt : i < 4
    · have hltz : (i : Int) < 4 := by omega
      have i0 : (0 : Int) ≤ (i : Int) := by omega
      have hiP : i < (partsR r l).length := by simp [partsR]; omega
      obtain ⟨gP, off, hA, hgP, hrg⟩ := (HEP.out).at hiP
      have hyi : (partsR r l)[i] = ofR (sub r i) l := by simp [partsR]
      obtain ⟨y, hy⟩ : ∃ y, y = ofR (sub r i) l := ⟨_, rfl⟩
      rw [hyi, ← hy] at hrg
      have hpf := part_facts HG.out HD8.out hlt (l := l) (by have := HN.out; omega)
      rw [← hy] at hpf
      obtain ⟨N13, hN13⟩ : ∃ N, N = (itemsR y l).length := ⟨_, rfl⟩
      rw [← hN13] at hpf
      have hN13b : N13 ≤ 80 := by have := itemsR_len y l; have := HN.out; omega
      have HPF := Lib.hid hpf
      have HY := Lib.hid hy
      have HN13 := Lib.hid hN13
      have HRP := Lib.hid (show ∀ W, Behind w3 W → W.rangeAt gP (off + i * 35) (encG y) from fun W hW => range_below' hrg hW hgP)
      have HRD := Lib.hid (show ∀ W, Behind w3 W → W.cell? ⟨gP, off + i * 35, none⟩ = some (.int .i64 (r.depth + 1)) from fun W hW => by have h := HRP.out W hW 0 _ rfl; rw [HPF.out.2.1] at h; exact h)
      have HRC := Lib.hid (show ∀ W, Behind w3 W → W.cell? ⟨gP, off + i * 35 + 2, none⟩ = some (.int .i64 (N13 : Int)) from fun W hW => by have h := HRP.out W hW 2 _ rfl; rw [HPF.out.2.2] at h; exact h)
      have HIT := Lib.hid (show ∀ W, Behind w3 W → Calls Tryd.prog 17 #[.agg (encG y).toArray, .slice A n c] W fun e w' => ∃ A' c', e = .returned (.slice A' N13 c') ∧ N13 ≤ c' ∧ EncIn encR 65 w' A' (itemsR y l) ∧ Below W.heap.size W w' from fun W hW => items_slice y A c l W n N13 HN.out hN13 (HEL.out W hW) (by omega))
      have HGY := Lib.hid (show ∀ W, Calls Tryd.prog 14 #[.agg (encG y).toArray] W fun e w' => e = .returned (.bool true) ∧ Below W.heap.size W w' from fun W => by rw [← HPF.out.1]; exact good_any y W)
      have HIY := Lib.hid (show ∀ W, Calls Tryd.prog 22 #[.agg (encG y).toArray, .agg (u8s k).toArray] W fun e w' => e = .returned (.bool (inB y k)) ∧ Below W.heap.size W w' from fun W => in_any y k HK.out W)
      clear hrg hyi hy hpf hN13 hgP hiP
      subst hA
      go_upto_region 17 with (first
        | (with_reducible refine wpList_loadW (by with_unfolding_all rfl) 26 (.tmp 56) rfl gP (off + i * 35) (by with_unfolding_all rfl) (encG y) _ (HRP.out _ HQ0.out) Tryd.underlying26 (by with_unfolding_all rfl) (HLG.out _) ?_)
        | (go_at_call 17; (with_reducible refine Calls.mono (HIT.out _ HQ0.out) ?_); rintro e w16 ⟨A13, c13, rfl, _, hE, hb⟩; have HE13 := Lib.hid hE; have HQ16 := Lib.hid (Behind.trans' HQ0.out hb); have HO16 := Lib.hid (HO.out.below hb); have HB16 := Lib.hid hb; clear hE hb))
      refine wp_region_mix [(0, true), (1, true), (2, true), (3, true), (4, true), (5, true), (6, true), (7, true), (8, true), (9, true), (10, true), (11, true), (12, true), (13, true), (14, true), (15, true), (16, true), (17, true), (18, true), (19, true), (20, true), (21, true), (22, true), (23, true), (24, false), (25, true), (26, true)] (Behind w16)
        (by kernel_rfl) (by kernel_rfl) (fun _ _ d _ _ h => by cases d <;> exact h) (by kernel_rfl) (by decide) (Below.refl _ _).drew ?_
      have hz0 : Behind w16 w16.drew := (Below.refl _ _).drew
      repeat (
        refine wpMix_q (by with_unfolding_all rfl) (by kernel_rfl) ?_
        first
          | go_big_quiet_skip
          | ((with_reducible refine wpQuiet_load1 (.int .i64 (N13 : Int)) (by with_unfolding_all rfl) 3 _ (by with_unfolding_all rfl) .i64 HUI.out gP (off + i * 35 + 2) (by with_unfolding_all rfl) (fun w h => HRC.out w (Behind.tr HQ16.out h)) ?_); simp only [Act.put, List.setIfInBounds_toArray, List.set_cons_zero, List.set_cons_succ])
          | ((with_reducible refine wpQuiet_load1 (.int .i64 (r.depth + 1)) (by with_unfolding_all rfl) 3 _ (by with_unfolding_all rfl) .i64 HUI.out gP (off + i * 35) (by with_unfolding_all rfl) (fun w h => HRD.out w (Behind.tr HQ16.out h)) ?_); simp only [Act.put, List.setIfInBounds_toArray, List.set_cons_zero, List.set_cons_succ])
          | ((with_reducible refine wpQuiet_load1 (.int .i64 r.depth) (by with_unfolding_all rfl) 3 _ (by with_unfolding_all rfl) .i64 HUI.out g4 (0) (by with_unfolding_all rfl) (fun w h => (HS4.out w (Behind.tr HQ16.out h)).depth) ?_); simp only [Act.put, List.setIfInBounds_toArray, List.set_cons_zero, List.set_cons_succ])
          | ((with_reducible refine wpQuiet_loadAll (by with_unfolding_all rfl) 26 _ (by with_unfolding_all rfl) gP (off + i * 35) (by with_unfolding_all rfl) (encG y) _ (fun w h => HRP.out w (Behind.tr HQ16.out h)) Tryd.underlying26 (by with_unfolding_all rfl) (HLG.out _) ?_); simp only [Act.put, List.setIfInBounds_toArray, List.set_cons_zero, List.set_cons_succ])
          | (go_big_quiet_step (exact fun _ => rfl))
        refine wpMix_qnil ?_)
      refine mix_callv 14 [.agg (encG y).toArray] (.bool true) (by with_unfolding_all rfl) (by with_unfolding_all rfl) (by with_unfolding_all rfl) ((HGY.out _).mono (fun e w' ⟨he, hb⟩ => ⟨he, Behind.trans' hz0 hb⟩)) ?_
      intro z17 hz17
      simp only [Act.put, List.setIfInBounds_toArray, List.set_cons_zero, List.set_cons_succ]
      repeat (
        refine wpMix_q (by with_unfolding_all rfl) (by kernel_rfl) ?_
        first
          | go_big_quiet_skip
          | (go_big_quiet_step (exact fun _ => rfl))
        refine wpMix_qnil ?_)
      refine wpMix_nil ?_
      have HB17 := Lib.hid (show Below w16.heap.size w16 z17 from hz17)
      have HQ17 := Lib.hid (Behind.trans' HQ16.out HB17.out)
      have HO17 := Lib.hid (HO16.out.below HB17.out)
      have HE17 := Lib.hid (HE13.out.up HB17.out)
      clear hz0 hz17
      go_upto_region 21 with (first
        | (at_builtin; refine wpList_append_enc (enc := encR) (k := 65) rfl rfl (.tmp 87) (.tmp 88) 22 38 72 rfl _ Tryd.underlying22 info3Rec rfl (by decide) w3.heap.size v N (allR r l i) (itemsR y l) rfl HO17.out (fun _ _ => encR_len _) (fun _ _ => encR_one _) A13 N13 c13 rfl HN13.out HE17.out (by rw [← HN13.out]; unfold maxLen; omega) (by rw [← HN13.out]; omega) (Nat.le_trans HBW.out.size (Nat.le_trans HB16.out.size HB17.out.size)) ?_; intro v7 w19 hO7 hg7 _; have hbx := own_below2 HO17.out (show Below w3.heap.size w3 z17 from HQ17.out) (Nat.le_refl _) (Nat.le_trans HBW.out.size (Nat.le_trans HB16.out.size HB17.out.size)) hg7; rw [← HN13.out] at hO7; have HNX := Lib.hid (show N + N13 = (allR r l (i + 1)).length by rw [allR_succ, List.length_append, ← HY.out, ← HN13.out, HNN.out]); have HO19 := Lib.hid (show Own w19 w3.heap.size 38 65 v7 (N + N13) ((allR r l (i + 1)).flatMap encR) by rw [allR_succ, ← HY.out]; exact hO7); have HBX := Lib.hid hbx; have HQ19 := Lib.hid (show Behind w3 w19 from hbx); have c20 := HRC.out w19 hbx; clear hO7 hg7 hbx))
      refine wp_region_mix [(0, true), (1, true), (2, true), (3, true), (4, true), (5, false)] (Behind w19)
        (by kernel_rfl) (by kernel_rfl) (fun _ _ d _ _ h => by cases d <;> exact h) (by kernel_rfl) (by decide) (Below.refl _ _).drew ?_
      have hz0 : Behind w19 w19.drew := (Below.refl _ _).drew
      repeat (
        refine wpMix_q (by with_unfolding_all rfl) (by kernel_rfl) ?_
        first
          | go_big_quiet_skip
          | ((with_reducible refine wpQuiet_loadAll (by with_unfolding_all rfl) 26 _ (by with_unfolding_all rfl) gP (off + i * 35) (by with_unfolding_all rfl) (encG y) _ (fun w h => HRP.out w (Behind.tr HQ19.out h)) Tryd.underlying26 (by with_unfolding_all rfl) (HLG.out _) ?_); simp only [Act.put, List.setIfInBounds_toArray, List.set_cons_zero, List.set_cons_succ])
          | ((with_reducible refine wpQuiet_loadAll (by with_unfolding_all rfl) 24 _ (by with_unfolding_all rfl) g5 (0) (by with_unfolding_all rfl) (u8s k) _ (fun w h => (HS5.out w (Behind.tr HQ19.out h)).all) HUD.out (by with_unfolding_all rfl) (HDG.out _ HK.out) ?_); simp only [Act.put, List.setIfInBounds_toArray, List.set_cons_zero, List.set_cons_succ])
          | (go_big_quiet_step (exact fun _ => rfl))
        refine wpMix_qnil ?_)
      cases hin : inB y k with
      | true =>
        rw [hin] at HIY
        have HIN := Lib.hid (show M + 1 = inN r l k (i + 1) by rw [inN_succ, ← HY.out, hin, if_pos rfl, HMM.out])
        clear hin
        refine mix_callv 22 [.agg (encG y).toArray, .agg (u8s k).toArray] (.bool true) (by with_unfolding_all rfl) (by with_unfolding_all rfl) (by with_unfolding_all rfl) ((HIY.out _).mono (fun e w' ⟨he, hb⟩ => ⟨he, Behind.trans' hz0 hb⟩)) ?_
        intro z21 hz21
        simp only [Act.put, List.setIfInBounds_toArray, List.set_cons_zero, List.set_cons_succ]
        refine wpMix_nil ?_
        have HB21 := Lib.hid (show Below w19.heap.size w19 z21 from hz21)
        clear hz0 hz21
        go_wp2_with fail
        go_roundg (4 - (i + 1))
        case measure => omega
        case rel => exact ⟨i + 1, N + N13, M + 1, v7, rfl, by go_num, by go_num, by go_num, by omega, Nat.le_refl _, HNX.out, HIN.out, HO19.out.below HB21.out, HBX.out.trans (HB21.out.mono HBX.out.size)⟩
      | false =>
        rw [hin] at HIY
        have HIN := Lib.hid (show M = inN r l k (i + 1) by rw [inN_succ, ← HY.out, hin, HMM.out]; rfl)
        clear hin
        refine mix_callv 22 [.agg (encG y).toArray, .agg (u8s k).toArray] (.bool false) (by with_unfolding_all rfl) (by with_unfolding_all rfl) (by with_unfolding_all rfl) ((HIY.out _).mono (fun e w' ⟨he, hb⟩ => ⟨he, Behind.trans' hz0 hb⟩)) ?_
        intro z21 hz21
        simp only [Act.put, List.setIfInBounds_toArray, List.set_cons_zero, List.set_cons_succ]
        refine wpMix_nil ?_
        have HB21 := Lib.hid (show Below w19.heap.size w19 z21 from hz21)
        clear hz0 hz21
        go_wp2_with fail
        go_roundg (4 - (i + 1))
        case measure => omega
        case rel => exact ⟨i + 1, N + N13, M, v7, rfl, by go_num, rfl, by go_num, by omega, Nat.le_refl _, HNX.out, HIN.out, HO19.out.below HB21.out, HBX.out.trans (HB21.out.mono HBX.out.size)⟩
    · obtain rfl : i = 4 := by omega
      have hnl : l.length < 1048577 := by have := HN.out; omega
      obtain ⟨z, hz⟩ : ∃ z, z = ofR r l := ⟨_, rfl⟩
      have HCT := Lib.hid (show z.count = (N : Int) by rw [hz, whole_count HG.out HD8.out hnl, HNN.out])
      have HOFC := Lib.hid (of_at r HPL.out A c n l wr HN.out (HEL.out _ HQ0.out) (by omega) (HWB.out _ HQ0.out) z hz)
      obtain ⟨A9, c9, rfl, _, hE9⟩ := HO.out.rows HNN.out (fun x _ => encR_len x)
      obtain ⟨NI, hNI⟩ : ∃ N, N = (itemsR r l).length := ⟨_, rfl⟩
      have hNIb : NI ≤ 80 := by have h1 := itemsR_len r l; have h2 := HN.out; omega
      have HNI := Lib.hid hNI
      have HIR := Lib.hid (show ∀ W, Behind w3 W → Calls Tryd.prog 17 #[.agg (encG r).toArray, .slice A n c] W fun e w' => ∃ A' c', e = .returned (.slice A' NI c') ∧ NI ≤ c' ∧ EncIn encR 65 w' A' (itemsR r l) ∧ Below W.heap.size W w' from fun W hW => items_slice r A c l W n NI HN.out hNI (HEL.out W hW) (by omega))
      have HALL := Lib.hid (show decide (allR r l 4 = itemsR r l) = true from decide_eq_true (allR_four HG.out HD8.out hnl))
      have HRCS := Lib.hid (show ∀ (W : World) (A' : Option Addr) (c' : Nat), Behind wr W → EncIn encR 65 W A' (itemsR r l) → Calls Tryd.prog 16 #[.slice A9 N c9, .slice A' NI c'] W fun e w' => e = .returned (.bool true) ∧ Below W.heap.size W w' from fun W A' c' hW hE' => by
        have h := records_any A9 A' c9 c' (allR r l 4) (itemsR r l) N NI W HNN.out HNI.out (hE9.up hW) hE' (by omega) (by omega)
        rw [HALL.out] at h
        exact h)
      have HINR := Lib.hid (show ∀ W, Calls Tryd.prog 22 #[.agg (encG r).toArray, .agg (u8s k).toArray] W fun e w' => e = .returned (.bool (inB r k)) ∧ Below W.heap.size W w' from fun W => in_any r k HK.out W)
      have c23a := (HS4.out _ HQ0.out).depth
      have c23b := (HS4.out _ HQ0.out).pref
      have HKwr := Lib.hid (show Below w3.heap.size w3 wr from HQ0.out)
      have HRwr := Lib.hid (show Below wr.heap.size wr wr from Below.refl _ _)
      have hm4 := inN_four HG.out HD8.out hnl k
      rw [← HMM.out] at hm4
      clear hz hE9 hNI hnl HO HMM
      cases hin : inB r k with
      | true =>
        rw [hin] at HINR hm4
        rw [if_pos rfl] at hm4
        subst hm4
        clear hin
        go_wp2_with (first
          | (go_at_call 15; (with_reducible refine Calls.mono (HOFC.out) ?_); rintro e u1 ⟨rfl, hb⟩; have HKu1 := Lib.hid (HKwr.out.trans (hb.mono HKwr.out.size)); have HRu1 := Lib.hid (HRwr.out.trans (hb.mono HRwr.out.size)); clear hb c23a c23b)
          | ((with_reducible refine wpList_allocZ (o := ⟨some 14, _, _, _, _, _⟩) 26 (encG default) rfl rfl zeroRng ?_); intro g14 u2 hg hat hb; have HAT14 := Lib.hid hat; have HBA14 := Lib.hid hb; have HGE14 := Lib.hid hg; clear hat hb hg)
          | ((with_reducible refine wpList_storeAll rfl 26 (.tmp 14) (.tmp 112) rfl g14 rfl _ _ (encG z) HAT14.out rfl (HLL.out _ _) (HLG.out _) (encG_one _) ?_); intro u3 hat hg hs; have hbb := Below.ofGrown HBA14.out hg HBA14.out.size (Nat.le_of_eq HGE14.out.symm); have HZ14u3 := Lib.hid hat; have HKu3 := Lib.hid (HKu1.out.trans (hbb.mono HKu1.out.size)); have HRu3 := Lib.hid (HRu1.out.trans (hbb.mono HRu1.out.size)); clear hat hg hs hbb; have HQU := Lib.hid (show Behind w3 u3 from HKu3.out); have c24 : u3.cell? ⟨g14, 2, none⟩ = some (.int .i64 (N : Int)) := by (have h := HZ14u3.out.count; rw [HCT.out] at h; exact h))
          | (with_reducible refine wpList_loadW (by with_unfolding_all rfl) 26 (.tmp 4) rfl g4 0 (by with_unfolding_all rfl) (encG r) _ ((HS4.out _ HQU.out).all) Tryd.underlying26 (by with_unfolding_all rfl) (HLG.out _) ?_)
          | (go_at_call 17; (with_reducible refine Calls.mono (HIR.out _ HQU.out) ?_); rintro e u4 ⟨A26, c26, rfl, _, hE, hb⟩; have HE26 := Lib.hid hE; have HQ4 := Lib.hid (Behind.trans' HQU.out hb); have HT4 := Lib.hid (show Behind wr u4 from HRu3.out.trans (hb.mono HRu3.out.size)); clear hE hb c24)
          | (go_at_call 16; (with_reducible refine Calls.mono (HRCS.out _ _ _ HT4.out HE26.out) ?_); rintro e u5 ⟨rfl, hb⟩; have HQ5 := Lib.hid (Behind.trans' HQ4.out hb); clear hb)
          | (with_reducible refine wpList_loadW (by with_unfolding_all rfl) 26 (.tmp 4) rfl g4 0 (by with_unfolding_all rfl) (encG r) _ ((HS4.out _ HQ5.out).all) Tryd.underlying26 (by with_unfolding_all rfl) (HLG.out _) ?_)
          | (with_reducible refine wpList_loadW (by with_unfolding_all rfl) 24 (.tmp 5) rfl g5 0 (by with_unfolding_all rfl) (u8s k) _ ((HS5.out _ HQ5.out).all) HUD.out (by with_unfolding_all rfl) (HDG.out _ HK.out) ?_)
          | (go_at_call 22; (with_reducible refine Calls.mono (HINR.out _) ?_); rintro e u6 ⟨rfl, hb⟩; have HQ6 := Lib.hid (Behind.trans' HQ5.out hb); clear hb))
        go_ret
        exact ⟨rfl, HBw3.out.trans (Below.mono HQ6.out HBw3.out.size)⟩
      | false =>
        rw [hin] at HINR hm4
        rw [if_neg (by simp)] at hm4
        subst hm4
        clear hin
        go_wp2_with (first
          | (go_at_call 15; (with_reducible refine Calls.mono (HOFC.out) ?_); rintro e u1 ⟨rfl, hb⟩; have HKu1 := Lib.hid (HKwr.out.trans (hb.mono HKwr.out.size)); have HRu1 := Lib.hid (HRwr.out.trans (hb.mono HRwr.out.size)); clear hb c23a c23b)
          | ((with_reducible refine wpList_allocZ (o := ⟨some 14, _, _, _, _, _⟩) 26 (encG default) rfl rfl zeroRng ?_); intro g14 u2 hg hat hb; have HAT14 := Lib.hid hat; have HBA14 := Lib.hid hb; have HGE14 := Lib.hid hg; clear hat hb hg)
          | ((with_reducible refine wpList_storeAll rfl 26 (.tmp 14) (.tmp 112) rfl g14 rfl _ _ (encG z) HAT14.out rfl (HLL.out _ _) (HLG.out _) (encG_one _) ?_); intro u3 hat hg hs; have hbb := Below.ofGrown HBA14.out hg HBA14.out.size (Nat.le_of_eq HGE14.out.symm); have HZ14u3 := Lib.hid hat; have HKu3 := Lib.hid (HKu1.out.trans (hbb.mono HKu1.out.size)); have HRu3 := Lib.hid (HRu1.out.trans (hbb.mono HRu1.out.size)); clear hat hg hs hbb; have HQU := Lib.hid (show Behind w3 u3 from HKu3.out); have c24 : u3.cell? ⟨g14, 2, none⟩ = some (.int .i64 (N : Int)) := by (have h := HZ14u3.out.count; rw [HCT.out] at h; exact h))
          | (with_reducible refine wpList_loadW (by with_unfolding_all rfl) 26 (.tmp 4) rfl g4 0 (by with_unfolding_all rfl) (encG r) _ ((HS4.out _ HQU.out).all) Tryd.underlying26 (by with_unfolding_all rfl) (HLG.out _) ?_)
          | (go_at_call 17; (with_reducible refine Calls.mono (HIR.out _ HQU.out) ?_); rintro e u4 ⟨A26, c26, rfl, _, hE, hb⟩; have HE26 := Lib.hid hE; have HQ4 := Lib.hid (Behind.trans' HQU.out hb); have HT4 := Lib.hid (show Behind wr u4 from HRu3.out.trans (hb.mono HRu3.out.size)); clear hE hb c24)
          | (go_at_call 16; (with_reducible refine Calls.mono (HRCS.out _ _ _ HT4.out HE26.out) ?_); rintro e u5 ⟨rfl, hb⟩; have HQ5 := Lib.hid (Behind.trans' HQ4.out hb); clear hb)
          | (with_reducible refine wpList_loadW (by with_unfolding_all rfl) 26 (.tmp 4) rfl g4 0 (by with_unfolding_all rfl) (encG r) _ ((HS4.out _ HQ5.out).all) Tryd.underlying26 (by with_unfolding_all rfl) (HLG.out _) ?_)
          | (with_reducible refine wpList_loadW (by with_unfolding_all rfl) 24 (.tmp 5) rfl g5 0 (by with_unfolding_all rfl) (u8s k) _ ((HS5.out _ HQ5.out).all) HUD.out (by with_unfolding_all rfl) (HDG.out _ HK.out) ?_)
          | (go_at_call 22; (with_reducible refine Calls.mono (HINR.out _) ?_); rintro e u6 ⟨rfl, hb⟩; have HQ6 := Lib.hid (Behind.trans' HQ5.out hb); clear hb))
        go_ret
        exact ⟨rfl, HBw3.out.trans (Below.mono HQ6.out HBw3.out.size)⟩
end Go.Proofs.YtefbllhpibfojaaDoor
