/- The references of layer 15: can, Good, prefix, In. -/
import Derived.Test.YtefbllhpibfojaaDoorRecTM
namespace Go.Proofs.YtefbllhpibfojaaDoor
open Go.Proofs Stab Go.Shelf Go.RowKit Go.Lib Go.Sort

set_option maxHeartbeats 1000000 in
theorem refcan_any (d p : Int) (w : World) (_hp : -9223372036854775808 ≤ p ∧ p ≤ 9223372036854775807) : Calls Tryd.prog 58 #[.int .i64 d, .int .i64 p] w fun e w' => e = .returned (.bool (placeB d p)) ∧ w = w' := by
  by_cases h0 : 0 ≤ d
  · by_cases h8 : d ≤ 8
    · by_cases hp0 : 0 ≤ p
      · go_enter Tryd.func58, Tryd.ntmps58
        go_wp2_with fail
        go_ret
        refine ⟨?_, rfl⟩
        show Ending.returned (.bool (decide (p < wrap64 (2 ^ (2 * d).toNat)))) = _
        rw [four_pow d h0 h8]
        unfold placeB
        simp [h0, h8, hp0]
      · go_enter Tryd.func58, Tryd.ntmps58
        go_wp2_with fail
        go_ret
        refine ⟨?_, rfl⟩
        show Ending.returned (.bool false) = _
        unfold placeB
        rw [decide_eq_false (fun h => absurd h.2.2.1 (by omega))]
    · go_enter Tryd.func58, Tryd.ntmps58
      go_wp2_with fail
      go_ret
      refine ⟨?_, rfl⟩
      show Ending.returned (.bool false) = _
      unfold placeB
      rw [decide_eq_false (fun h => absurd h.2.1 (by omega))]
  · go_enter Tryd.func58, Tryd.ntmps58
    go_wp2_with fail
    go_ret
    refine ⟨?_, rfl⟩
    show Ending.returned (.bool false) = _
    unfold placeB
    rw [decide_eq_false (fun h => absurd h.1 (by omega))]

set_option maxHeartbeats 1000000 in
theorem refgood_any (r : Rng) (w : World) : Calls Tryd.prog 29 #[.agg (encG r).toArray] w fun e w' => e = .returned (.bool (goodB r)) ∧ Below w.heap.size w w' := by
  have h1 : At (w.alloc (.cells (encG r).toArray 26)) w.heap.size 26 (encG r) := At.new w _ _
  have hd := h1.depth
  have hp := h1.pref
  have hc := h1.count
  have hB : Below w.heap.size w (w.alloc (.cells (encG r).toArray 26)) := (Below.refl _ _).alloc (Nat.le_refl _) _
  have hpl : ∀ W, Calls Tryd.prog 58 #[.int .i64 r.depth, .int .i64 r.pref] W fun e w' => e = .returned (.bool (placeB r.depth r.pref)) ∧ W = w' := fun W => refcan_any _ _ W r.hp
  have HP := Lib.hid hpl
  have HB := Lib.hid hB
  unfold goodB
  clear h1 hB hpl
  cases hq : placeB r.depth r.pref with
  | false =>
    rw [hq] at HP
    go_enter Tryd.func29, Tryd.ntmps29
    go_wp2_with (go_at_call 58; refine Calls.mono (HP.out _) ?_; rintro e w' ⟨rfl, rfl⟩)
    go_ret
    exact ⟨rfl, HB.out⟩
  | true =>
    rw [hq] at HP
    by_cases h0 : 0 ≤ r.count
    · by_cases h8 : r.count ≤ 1048576
      · go_enter Tryd.func29, Tryd.ntmps29
        go_wp2_with (go_at_call 58; refine Calls.mono (HP.out _) ?_; rintro e w' ⟨rfl, rfl⟩)
        go_ret
        refine ⟨?_, HB.out⟩
        show Ending.returned (.bool true) = _
        rw [decide_eq_true h0, decide_eq_true h8]; rfl
      · go_enter Tryd.func29, Tryd.ntmps29
        go_wp2_with (go_at_call 58; refine Calls.mono (HP.out _) ?_; rintro e w' ⟨rfl, rfl⟩)
        go_ret
        refine ⟨?_, HB.out⟩
        show Ending.returned (.bool (decide (r.count ≤ 1048576))) = _
        rw [decide_eq_true h0]; rfl
    · go_enter Tryd.func29, Tryd.ntmps29
      go_wp2_with (go_at_call 58; refine Calls.mono (HP.out _) ?_; rintro e w' ⟨rfl, rfl⟩)
      go_ret
      refine ⟨?_, HB.out⟩
      show Ending.returned (.bool false) = _
      rw [decide_eq_false (show ¬ 0 ≤ r.count by omega)]; rfl
theorem prefix_step (k : List UInt8) (i : Nat) (hi : i < 8) : first16 k / 4 ^ (8 - (i + 1)) = 4 * (first16 k / 4 ^ (8 - i)) + ((k.getD (i / 4) 0).toNat / 2 ^ (6 - 2 * (i % 4))) % 4 := by
  have h0 := (k.getD 0 0).toNat_lt
  have h1 := (k.getD 1 0).toNat_lt
  unfold first16
  have hi8 : i = 0 ∨ i = 1 ∨ i = 2 ∨ i = 3 ∨ i = 4 ∨ i = 5 ∨ i = 6 ∨ i = 7 := by omega
  rcases hi8 with rfl | rfl | rfl | rfl | rfl | rfl | rfl | rfl
  all_goals simp only [Nat.reducePow, Nat.reduceSub, Nat.reduceAdd, Nat.reduceDiv, Nat.reduceMod, Nat.reduceMul]; omega
set_option maxRecDepth 100000 in
set_option maxHeartbeats 4000000 in
theorem refprefix_any (k : List UInt8) (hk : k.length = 32) (d : Nat) (hd : d ≤ 8) (Z : Nat) (hZ : Z = first16 k / 4 ^ (8 - d)) (w : World) :
    Calls Tryd.prog 63 #[.agg (u8s k).toArray, .int .i64 d] w fun e w' => e = .returned (.int .i64 (Z : Int)) ∧ Below w.heap.size w w' := by
  have HZ := Lib.hid hZ
  clear hZ
  have h0 := At.new w 24 (u8s k)
  have hb0 : Below w.heap.size w (w.alloc (.cells (u8s k).toArray 24)) := (Below.refl _ _).alloc (Nat.le_refl _) _
  have HAT := Lib.hid h0
  have HB0 := Lib.hid hb0
  have HK := Lib.hid hk
  clear h0 hb0 hk
  have hF := first16_lt k
  obtain ⟨a, ha⟩ : ∃ a, a = (k.getD 0 0).toNat := ⟨_, rfl⟩
  obtain ⟨b, hb⟩ : ∃ b, b = (k.getD 1 0).toNat := ⟨_, rfl⟩
  have ha8 : a < 256 := by rw [ha]; exact (k.getD 0 0).toNat_lt
  have hb8 : b < 256 := by rw [hb]; exact (k.getD 1 0).toNat_lt
  have HA := Lib.hid ha
  have HB := Lib.hid hb
  clear ha hb
  go_enter Tryd.func63, Tryd.ntmps63
  go_upto_region 1 with (fail)
  obtain ⟨g2, hg2⟩ : ∃ g, g = w.heap.size := ⟨_, rfl⟩
  rw [← hg2] at HAT ⊢
  clear hg2
  generalize w.alloc (.cells (u8s k).toArray 24) = w0 at HAT HB0 ⊢
  go_upto_region 3 with (fail)
  go_loopg [5, 6] d (fun gg s5 s6 wr => ∃ (i N : Nat), s5 = .int .i64 N ∧ s6 = .int .i64 i ∧ i ≤ d ∧ d - i ≤ gg ∧ Hid (N = first16 k / 4 ^ (8 - i)) ∧ Hid (Below w0.heap.size w0 wr))
  case atStart => exact ⟨0, 0, rfl, rfl, Nat.zero_le _, by omega, (show Hid _ from (by rw [Nat.div_eq_of_lt (by simpa using hF)] : 0 = first16 k / 4 ^ (8 - 0))), Below.refl _ _⟩
  case round =>
    obtain ⟨i, N, rfl, rfl, hi, hgg, HN, HBW⟩ := hrel
    have hNb : N < 65536 := by rw [HN.out]; exact Nat.lt_of_le_of_lt (Nat.div_le_self _ _) hF
    by_cases hlt : i < d
    · have hltz : (i : Int) < (d : Int) := by omega
      have hst := prefix_step k i (by omega)
      rw [← HN.out] at hst
      have c0 : wr.cell? ⟨g2, 0, none⟩ = some (.int .u8 (a : Int)) := by rw [HA.out]; exact (HAT.out.below HBW.out HAT.out.lt).cell' (u8s_getD k 0 (by rw [HK.out]; decide))
      have c1 : wr.cell? ⟨g2, 1, none⟩ = some (.int .u8 (b : Int)) := by rw [HB.out]; exact (HAT.out.below HBW.out HAT.out.lt).cell' (u8s_getD k 1 (by rw [HK.out]; decide))
      have HST := Lib.hid hst
      clear hst HN
      have hi8 : i = 0 ∨ i = 1 ∨ i = 2 ∨ i = 3 ∨ i = 4 ∨ i = 5 ∨ i = 6 ∨ i = 7 := by omega
      rcases hi8 with rfl | rfl | rfl | rfl | rfl | rfl | rfl | rfl
      · have hl : (0 : Int) < (d : Int) := by omega
        have hst : 4 * N + a / 64 % 4 = first16 k / 4 ^ (8 - 1) := by rw [HA.out]; exact HST.out.symm
        have HS2 := Lib.hid hst
        clear hltz hst
        go_wp2_with fail
        go_roundg (d - 1)
        case measure => omega
        case rel => exact ⟨1, 4 * N + a / 64 % 4, by go_num, by go_num, by omega, Nat.le_refl _, HS2.out, HBW.out⟩
      · have hl : (1 : Int) < (d : Int) := by omega
        have hst : 4 * N + a / 16 % 4 = first16 k / 4 ^ (8 - 2) := by rw [HA.out]; exact HST.out.symm
        have HS2 := Lib.hid hst
        clear hltz hst
        go_wp2_with fail
        go_roundg (d - 2)
        case measure => omega
        case rel => exact ⟨2, 4 * N + a / 16 % 4, by go_num, by go_num, by omega, Nat.le_refl _, HS2.out, HBW.out⟩
      · have hl : (2 : Int) < (d : Int) := by omega
        have hst : 4 * N + a / 4 % 4 = first16 k / 4 ^ (8 - 3) := by rw [HA.out]; exact HST.out.symm
        have HS2 := Lib.hid hst
        clear hltz hst
        go_wp2_with fail
        go_roundg (d - 3)
        case measure => omega
        case rel => exact ⟨3, 4 * N + a / 4 % 4, by go_num, by go_num, by omega, Nat.le_refl _, HS2.out, HBW.out⟩
      · have hl : (3 : Int) < (d : Int) := by omega
        have hst : 4 * N + a / 1 % 4 = first16 k / 4 ^ (8 - 4) := by rw [HA.out]; exact HST.out.symm
        have HS2 := Lib.hid hst
        clear hltz hst
        go_wp2_with fail
        go_roundg (d - 4)
        case measure => omega
        case rel => exact ⟨4, 4 * N + a / 1 % 4, by go_num, by go_num, by omega, Nat.le_refl _, HS2.out, HBW.out⟩
      · have hl : (4 : Int) < (d : Int) := by omega
        have hst : 4 * N + b / 64 % 4 = first16 k / 4 ^ (8 - 5) := by rw [HB.out]; exact HST.out.symm
        have HS2 := Lib.hid hst
        clear hltz hst
        go_wp2_with fail
        go_roundg (d - 5)
        case measure => omega
        case rel => exact ⟨5, 4 * N + b / 64 % 4, by go_num, by go_num, by omega, Nat.le_refl _, HS2.out, HBW.out⟩
      · have hl : (5 : Int) < (d : Int) := by omega
        have hst : 4 * N + b / 16 % 4 = first16 k / 4 ^ (8 - 6) := by rw [HB.out]; exact HST.out.symm
        have HS2 := Lib.hid hst
        clear hltz hst
        go_wp2_with fail
        go_roundg (d - 6)
        case measure => omega
        case rel => exact ⟨6, 4 * N + b / 16 % 4, by go_num, by go_num, by omega, Nat.le_refl _, HS2.out, HBW.out⟩
      · have hl : (6 : Int) < (d : Int) := by omega
        have hst : 4 * N + b / 4 % 4 = first16 k / 4 ^ (8 - 7) := by rw [HB.out]; exact HST.out.symm
        have HS2 := Lib.hid hst
        clear hltz hst
        go_wp2_with fail
        go_roundg (d - 7)
        case measure => omega
        case rel => exact ⟨7, 4 * N + b / 4 % 4, by go_num, by go_num, by omega, Nat.le_refl _, HS2.out, HBW.out⟩
      · have hl : (7 : Int) < (d : Int) := by omega
        have hst : 4 * N + b / 1 % 4 = first16 k / 4 ^ (8 - 8) := by rw [HB.out]; exact HST.out.symm
        have HS2 := Lib.hid hst
        clear hltz hst
        go_wp2_with fail
        go_roundg (d - 8)
        case measure => omega
        case rel => exact ⟨8, 4 * N + b / 1 % 4, by go_num, by go_num, by omega, Nat.le_refl _, HS2.out, HBW.out⟩
    · have hid : i = d := by omega
      have hltz : ¬ (i : Int) < (d : Int) := by omega
      have HID := Lib.hid hid
      clear hid
      go_wp2_with fail
      go_ret
      refine ⟨?_, HB0.out.trans (HBW.out.mono HB0.out.size)⟩
      have hzn : Z = N := by rw [HZ.out, HN.out, HID.out]
      rw [hzn]
      rfl

theorem inB_nat {r : Rng} (hg : goodB r = true) (k : List UInt8) : inB r k = decide (((first16 k / 4 ^ (8 - r.depth.toNat) : Nat) : Int) = r.pref) := by
  obtain ⟨h1, h2, _, _⟩ := goodB_place hg
  unfold inB
  rw [hg, Bool.true_and]
  congr 1
  rw [show (8 - r.depth).toNat = 8 - r.depth.toNat by omega, Int.natCast_ediv, Int.natCast_pow]
  rfl
set_option maxRecDepth 100000 in
set_option maxHeartbeats 4000000 in
theorem refin_any (r : Rng) (k : List UInt8) (hk : k.length = 32) (w : World) :
    Calls Tryd.prog 30 #[.agg (encG r).toArray, .agg (u8s k).toArray] w fun e w' => e = .returned (.bool (inB r k)) ∧ Below w.heap.size w w' := by
  have hr0 : At (w.alloc (.cells (encG r).toArray 26)) w.heap.size 26 (encG r) := At.new w _ _
  have hr1 := hr0.alloc (.cells (u8s k).toArray 24)
  have hk0 : At ((w.alloc (.cells (encG r).toArray 26)).alloc (.cells (u8s k).toArray 24)) (w.heap.size + 1) 24 (u8s k) := by
    have := At.new (w.alloc (.cells (encG r).toArray 26)) 24 (u8s k)
    simpa using this
  have hb0 : Below w.heap.size w ((w.alloc (.cells (encG r).toArray 26)).alloc (.cells (u8s k).toArray 24)) := ((Below.refl _ _).alloc (Nat.le_refl _) _).alloc (by simp) _
  have HR := Lib.hid hr1
  have HK := Lib.hid hk0
  have HB0 := Lib.hid hb0
  have HL := Lib.hid hk
  have HUD := Lib.hid Tryd.underlying24
  have HUI := Lib.hid Tryd.underlying3
  have HDG := Lib.hid (show ∀ l : List UInt8, l.length = 32 → (Tryd.prog.info? 24).map (·.size) = some (u8s l).length from fun l hl => by rw [u8s_length, hl]; exact infoDg)
  have HLG := Lib.hid (show ∀ x, (Tryd.prog.info? 26).map (·.size) = some (encG x).length from fun x => by rw [encG_len]; exact infoRng)
  clear hr0 hr1 hk0 hb0 hk
  go_enter Tryd.func30, Tryd.ntmps30
  go_upto_region 1 with (fail)
  obtain ⟨g2, hg2⟩ : ∃ g, g = w.heap.size := ⟨_, rfl⟩
  obtain ⟨g3, hg3⟩ : ∃ g, g = w.heap.size + 1 := ⟨_, rfl⟩
  rw [← hg3] at HK ⊢
  rw [← hg2] at HR ⊢
  clear hg2 hg3
  generalize (w.alloc (.cells (encG r).toArray 26)).alloc (.cells (u8s k).toArray 24) = w0 at HR HK HB0 ⊢
  have HS2 := Lib.hid (show ∀ W, Behind w0 W → At W g2 26 (encG r) from fun W h => HR.out.below h HR.out.lt)
  have HS3 := Lib.hid (show ∀ W, Behind w0 W → At W g3 24 (u8s k) from fun W h => HK.out.below h HK.out.lt)
  have HGD := Lib.hid (show ∀ W, Calls Tryd.prog 29 #[.agg (encG r).toArray] W fun e w' => e = .returned (.bool (goodB r)) ∧ Below W.heap.size W w' from fun W => refgood_any r W)
  refine wp_region_mix [(0, true), (1, false), (2, true), (3, true), (4, true), (5, true), (7, true), (8, true), (6, false), (9, true), (10, true), (11, true)] (Behind w0)
    (by kernel_rfl) (by kernel_rfl) (fun _ _ d _ _ h => by cases d <;> exact h) (by kernel_rfl) (by decide) (Below.refl _ _).drew ?_
  have hz0 : Behind w0 w0.drew := (Below.refl _ _).drew
  cases hg : goodB r with
  | false =>
    rw [hg] at HGD
    have HI := Lib.hid (show inB r k = false by unfold inB; rw [hg]; rfl)
    clear hg
    repeat (
      refine wpMix_q (by with_unfolding_all rfl) (by kernel_rfl) ?_
      first
        | go_big_quiet_skip
        | ((with_reducible refine wpQuiet_loadAll (by with_unfolding_all rfl) 26 _ (by with_unfolding_all rfl) g2 (0) (by with_unfolding_all rfl) (encG r) _ (fun w h => (HS2.out w h).all) Tryd.underlying26 (by with_unfolding_all rfl) (HLG.out _) ?_); simp only [Act.put, List.setIfInBounds_toArray, List.set_cons_zero, List.set_cons_succ])
        | (go_big_quiet_step (exact fun _ => rfl))
      refine wpMix_qnil ?_)
    refine mix_callv 29 [.agg (encG r).toArray] (.bool false) (by with_unfolding_all rfl) (by with_unfolding_all rfl) (by with_unfolding_all rfl) ((HGD.out _).mono (fun e w' ⟨he, hb⟩ => ⟨he, Behind.trans' hz0 hb⟩)) ?_
    intro z1 hz1
    simp only [Act.put, List.setIfInBounds_toArray, List.set_cons_zero, List.set_cons_succ]
    repeat (
      refine wpMix_q (by with_unfolding_all rfl) (by kernel_rfl) ?_
      first
        | go_big_quiet_skip
        | ((with_reducible refine wpQuiet_loadAll (by with_unfolding_all rfl) 26 _ (by with_unfolding_all rfl) g2 (0) (by with_unfolding_all rfl) (encG r) _ (fun w h => (HS2.out w h).all) Tryd.underlying26 (by with_unfolding_all rfl) (HLG.out _) ?_); simp only [Act.put, List.setIfInBounds_toArray, List.set_cons_zero, List.set_cons_succ])
        | (go_big_quiet_step (exact fun _ => rfl))
      refine wpMix_qnil ?_)
    refine wpMix_skip (by with_unfolding_all rfl) (by with_unfolding_all rfl) hz1 ?_
    simp only [Act.put, List.setIfInBounds_toArray, List.set_cons_zero, List.set_cons_succ]
    repeat (
      refine wpMix_q (by with_unfolding_all rfl) (by kernel_rfl) ?_
      first
        | go_big_quiet_skip
        | ((with_reducible refine wpQuiet_loadAll (by with_unfolding_all rfl) 26 _ (by with_unfolding_all rfl) g2 (0) (by with_unfolding_all rfl) (encG r) _ (fun w h => (HS2.out w h).all) Tryd.underlying26 (by with_unfolding_all rfl) (HLG.out _) ?_); simp only [Act.put, List.setIfInBounds_toArray, List.set_cons_zero, List.set_cons_succ])
        | (go_big_quiet_step (exact fun _ => rfl))
      refine wpMix_qnil ?_)
    refine wpMix_nil ?_
    go_wp2_with fail
    go_ret
    exact ⟨by rw [HI.out]; rfl, HB0.out.trans (Below.mono hz1 HB0.out.size)⟩
  | true =>
    rw [hg] at HGD
    have hdp := goodB_place hg
    have HI := Lib.hid (inB_nat hg k)
    obtain ⟨d, hd⟩ : ∃ d : Nat, (d : Int) = r.depth := ⟨r.depth.toNat, by omega⟩
    obtain ⟨Z, hZ⟩ : ∃ Z : Nat, Z = first16 k / 4 ^ (8 - d) := ⟨_, rfl⟩
    have HZ := Lib.hid (show inB r k = decide ((Z : Int) = r.pref) by rw [HI.out, hZ, show r.depth.toNat = d by omega])
    have HPX := Lib.hid (show ∀ W, Calls Tryd.prog 63 #[.agg (u8s k).toArray, .int .i64 d] W fun e w' => e = .returned (.int .i64 (Z : Int)) ∧ Below W.heap.size W w' from fun W => refprefix_any k HL.out d (by omega) Z hZ W)
    have HD := Lib.hid (show ∀ W, Behind w0 W → W.cell? ⟨g2, 0, none⟩ = some (.int .i64 (d : Int)) from fun W h => by rw [hd]; exact (HS2.out W h).depth)
    clear hg hdp hd hZ HI
    repeat (
      refine wpMix_q (by with_unfolding_all rfl) (by kernel_rfl) ?_
      first
        | go_big_quiet_skip
        | ((with_reducible refine wpQuiet_loadAll (by with_unfolding_all rfl) 26 _ (by with_unfolding_all rfl) g2 (0) (by with_unfolding_all rfl) (encG r) _ (fun w h => (HS2.out w h).all) Tryd.underlying26 (by with_unfolding_all rfl) (HLG.out _) ?_); simp only [Act.put, List.setIfInBounds_toArray, List.set_cons_zero, List.set_cons_succ])
        | ((with_reducible refine wpQuiet_loadAll (by with_unfolding_all rfl) 24 _ (by with_unfolding_all rfl) g3 (0) (by with_unfolding_all rfl) (u8s k) _ (fun w h => (HS3.out w h).all) HUD.out (by with_unfolding_all rfl) (HDG.out _ HL.out) ?_); simp only [Act.put, List.setIfInBounds_toArray, List.set_cons_zero, List.set_cons_succ])
        | ((with_reducible refine wpQuiet_load1 (.int .i64 (d : Int)) (by with_unfolding_all rfl) 3 _ (by with_unfolding_all rfl) .i64 HUI.out g2 (0) (by with_unfolding_all rfl) (fun w h => HD.out w h) ?_); simp only [Act.put, List.setIfInBounds_toArray, List.set_cons_zero, List.set_cons_succ])
        | ((with_reducible refine wpQuiet_load1 (.int .i64 r.pref) (by with_unfolding_all rfl) 3 _ (by with_unfolding_all rfl) .i64 HUI.out g2 (1) (by with_unfolding_all rfl) (fun w h => (HS2.out w h).pref) ?_); simp only [Act.put, List.setIfInBounds_toArray, List.set_cons_zero, List.set_cons_succ])
        | (go_big_quiet_step (exact fun _ => rfl))
      refine wpMix_qnil ?_)
    refine mix_callv 29 [.agg (encG r).toArray] (.bool true) (by with_unfolding_all rfl) (by with_unfolding_all rfl) (by with_unfolding_all rfl) ((HGD.out _).mono (fun e w' ⟨he, hb⟩ => ⟨he, Behind.trans' hz0 hb⟩)) ?_
    intro z1 hz1
    simp only [Act.put, List.setIfInBounds_toArray, List.set_cons_zero, List.set_cons_succ]
    repeat (
      refine wpMix_q (by with_unfolding_all rfl) (by kernel_rfl) ?_
      first
        | go_big_quiet_skip
        | ((with_reducible refine wpQuiet_loadAll (by with_unfolding_all rfl) 26 _ (by with_unfolding_all rfl) g2 (0) (by with_unfolding_all rfl) (encG r) _ (fun w h => (HS2.out w h).all) Tryd.underlying26 (by with_unfolding_all rfl) (HLG.out _) ?_); simp only [Act.put, List.setIfInBounds_toArray, List.set_cons_zero, List.set_cons_succ])
        | ((with_reducible refine wpQuiet_loadAll (by with_unfolding_all rfl) 24 _ (by with_unfolding_all rfl) g3 (0) (by with_unfolding_all rfl) (u8s k) _ (fun w h => (HS3.out w h).all) HUD.out (by with_unfolding_all rfl) (HDG.out _ HL.out) ?_); simp only [Act.put, List.setIfInBounds_toArray, List.set_cons_zero, List.set_cons_succ])
        | ((with_reducible refine wpQuiet_load1 (.int .i64 (d : Int)) (by with_unfolding_all rfl) 3 _ (by with_unfolding_all rfl) .i64 HUI.out g2 (0) (by with_unfolding_all rfl) (fun w h => HD.out w h) ?_); simp only [Act.put, List.setIfInBounds_toArray, List.set_cons_zero, List.set_cons_succ])
        | ((with_reducible refine wpQuiet_load1 (.int .i64 r.pref) (by with_unfolding_all rfl) 3 _ (by with_unfolding_all rfl) .i64 HUI.out g2 (1) (by with_unfolding_all rfl) (fun w h => (HS2.out w h).pref) ?_); simp only [Act.put, List.setIfInBounds_toArray, List.set_cons_zero, List.set_cons_succ])
        | (go_big_quiet_step (exact fun _ => rfl))
      refine wpMix_qnil ?_)
    refine mix_callv 63 [.agg (u8s k).toArray, .int .i64 d] (.int .i64 (Z : Int)) (by with_unfolding_all rfl) (by with_unfolding_all rfl) (by with_unfolding_all rfl) ((HPX.out _).mono (fun e w' ⟨he, hb⟩ => ⟨he, Behind.trans' hz1 hb⟩)) ?_
    intro z2 hz2
    simp only [Act.put, List.setIfInBounds_toArray, List.set_cons_zero, List.set_cons_succ]
    repeat (
      refine wpMix_q (by with_unfolding_all rfl) (by kernel_rfl) ?_
      first
        | go_big_quiet_skip
        | ((with_reducible refine wpQuiet_loadAll (by with_unfolding_all rfl) 26 _ (by with_unfolding_all rfl) g2 (0) (by with_unfolding_all rfl) (encG r) _ (fun w h => (HS2.out w h).all) Tryd.underlying26 (by with_unfolding_all rfl) (HLG.out _) ?_); simp only [Act.put, List.setIfInBounds_toArray, List.set_cons_zero, List.set_cons_succ])
        | ((with_reducible refine wpQuiet_loadAll (by with_unfolding_all rfl) 24 _ (by with_unfolding_all rfl) g3 (0) (by with_unfolding_all rfl) (u8s k) _ (fun w h => (HS3.out w h).all) HUD.out (by with_unfolding_all rfl) (HDG.out _ HL.out) ?_); simp only [Act.put, List.setIfInBounds_toArray, List.set_cons_zero, List.set_cons_succ])
        | ((with_reducible refine wpQuiet_load1 (.int .i64 (d : Int)) (by with_unfolding_all rfl) 3 _ (by with_unfolding_all rfl) .i64 HUI.out g2 (0) (by with_unfolding_all rfl) (fun w h => HD.out w h) ?_); simp only [Act.put, List.setIfInBounds_toArray, List.set_cons_zero, List.set_cons_succ])
        | ((with_reducible refine wpQuiet_load1 (.int .i64 r.pref) (by with_unfolding_all rfl) 3 _ (by with_unfolding_all rfl) .i64 HUI.out g2 (1) (by with_unfolding_all rfl) (fun w h => (HS2.out w h).pref) ?_); simp only [Act.put, List.setIfInBounds_toArray, List.set_cons_zero, List.set_cons_succ])
        | (go_big_quiet_step (exact fun _ => rfl))
      refine wpMix_qnil ?_)
    refine wpMix_nil ?_
    go_wp2_with fail
    go_ret
    exact ⟨by rw [HZ.out]; rfl, HB0.out.trans (Below.mono hz2 HB0.out.size)⟩
end Go.Proofs.YtefbllhpibfojaaDoor
