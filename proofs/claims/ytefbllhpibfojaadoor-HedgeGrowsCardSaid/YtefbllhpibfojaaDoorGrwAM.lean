/- HedgeGrows: the walk. -/
import Derived.Test.YtefbllhpibfojaaDoorGrwPM
import Derived.Test.YtefbllhpibfojaaDoorSrtAM
import Derived.Test.YtefbllhpibfojaaDoorEncFM
namespace Go.Proofs.YtefbllhpibfojaaDoor
open Go.Proofs Stab Go.Shelf Go.RowKit Go.Lib Go.Sort

set_option maxRecDepth 100000 in
set_option maxHeartbeats 16000000 in
theorem grows_any (A : Option Addr) (c : Nat) (l : List Rec) (x : Rec) (r : Rng) (w : World) (hE : EncIn encR 65 w A l) (hlc : l.length ≤ c) (hcm : c ≤ maxLen) (_ : A = none → c = 0) (hwd : Tab w 0 (u32s Sha.words)) :
    Calls Tryd.prog 5 #[.slice A l.length c, .agg (encR x).toArray, .agg (encG r).toArray] w fun e w' => e = .returned (.bool true) ∧ Below w.heap.size w w' := by
  have hn63 : l.length ≤ 9223372036854775807 := by unfold maxLen at hcm; omega
  have hx0 : At (w.alloc (.cells (encR x).toArray 38)) w.heap.size 38 (encR x) := At.new w _ _
  have hr0 : At ((w.alloc (.cells (encR x).toArray 38)).alloc (.cells (encG r).toArray 26)) (w.heap.size + 1) 26 (encG r) := by
    have := At.new (w.alloc (.cells (encR x).toArray 38)) 26 (encG r)
    simpa using this
  have hx1 := hx0.alloc (.cells (encG r).toArray 26)
  have hb0 : Below w.heap.size w ((w.alloc (.cells (encR x).toArray 38)).alloc (.cells (encG r).toArray 26)) := ((Below.refl _ _).alloc (Nat.le_refl _) _).alloc (by simp) _
  have HX0 := Lib.hid hx1
  have HR0 := Lib.hid hr0
  have HB0 := Lib.hid hb0
  have HE := Lib.hid hE
  have HW := Lib.hid hwd
  have HUD := Lib.hid Tryd.underlying24
  have HUR := Lib.hid Tryd.underlying38
  have HUI := Lib.hid Tryd.underlying3
  have HDG := Lib.hid (show ∀ l : List UInt8, l.length = 32 → (Tryd.prog.info? 24).map (·.size) = some (u8s l).length from fun l hl => by rw [u8s_length, hl]; exact infoDg)
  have HLR := Lib.hid (show ∀ x, (Tryd.prog.info? 38).map (·.size) = some (encR x).length from fun x => by rw [encR_len]; exact infoRec)
  have HLG := Lib.hid (show ∀ x, (Tryd.prog.info? 26).map (·.size) = some (encG x).length from fun x => by rw [encG_len]; exact infoRng)
  have HLL := Lib.hid (show ∀ x y, (encG x).length = (encG y).length from fun x y => by rw [encG_len, encG_len])
  clear hE hwd hlc hcm hx0 hx1 hr0 hb0
  obtain ⟨n, hn⟩ : ∃ n, n = l.length := ⟨_, rfl⟩
  rw [← hn] at hn63 ⊢
  have HN := Lib.hid hn
  clear hn
  go_enter Tryd.func5, Tryd.ntmps5
  go_upto_region 1 with (fail)
  obtain ⟨g4, hg4⟩ : ∃ g, g = w.heap.size := ⟨_, rfl⟩
  obtain ⟨g5, hg5⟩ : ∃ g, g = w.heap.size + 1 := ⟨_, rfl⟩
  rw [← hg5] at HR0 ⊢
  rw [← hg4] at HX0 ⊢
  have HG4 := Lib.hid (show w.heap.size ≤ g4 ∧ w.heap.size ≤ g5 ∧ g4 < g5 by omega)
  clear hg4 hg5
  generalize (w.alloc (.cells (encR x).toArray 38)).alloc (.cells (encG r).toArray 26) = w0 at HX0 HR0 HB0 ⊢
  by_cases h80 : 80 < n
  · go_wp2_with (go_at_call 13; refine (awake_any w0 (HW.out.below HB0.out HW.out.lt)).mono ?_; rintro e w1 ⟨rfl, hb⟩; have HB1 := Lib.hid (HB0.out.trans (hb.mono HB0.out.size)); clear hb)
    go_ret
    exact ⟨rfl, HB1.out⟩
  go_wp2_with (go_at_call 13; refine (awake_any w0 (HW.out.below HB0.out HW.out.lt)).mono ?_; rintro e w1 ⟨rfl, hb⟩; have HB1 := Lib.hid (HB0.out.trans (hb.mono HB0.out.size)); have HX1 := Lib.hid (HX0.out.below hb HX0.out.lt); have HR1 := Lib.hid (HR0.out.below hb HR0.out.lt); clear hb)
  go_loopg [7] n (fun gg s7 wr => ∃ i : Nat, s7 = .int .i64 i ∧ i ≤ n ∧ n - i ≤ gg ∧ Hid (Below w1.heap.size w1 wr) ∧ Hid (∀ j (h : j < l.length), j < i → (l[j]).key ≠ x.key))
  case atStart => exact ⟨0, rfl, Nat.zero_le _, by omega, Below.refl _ _, fun j h h2 => absurd h2 (Nat.not_lt_zero _)⟩
  case round =>
    obtain ⟨i, rfl, hin, hgg, HBW, HNE⟩ := hrel
    have HBX := Lib.hid (HB1.out.trans (HBW.out.mono HB1.out.size))
    have HX2 := Lib.hid (HX1.out.below HBW.out HX1.out.lt)
    have HR2 := Lib.hid (HR1.out.below HBW.out HR1.out.lt)
    by_cases hlt : i < n
    · have hltz : (i : Int) < (n : Int) := by omega
      have i0 : (0 : Int) ≤ (i : Int) := by omega
      have hil : i < l.length := by have := HN.out; omega
      obtain ⟨g, off, hA, hgl, hr⟩ := (HE.out.up HBX.out).at hil
      obtain ⟨y, hy⟩ : ∃ x, x = l[i] := ⟨_, rfl⟩
      rw [← hy] at hr
      have HRa := Lib.hid (show ∀ W, Behind wr W → W.rangeAt g (off + i * 65) (encR y) from fun W hW => range_below' hr hW hgl)
      have HRb := Lib.hid (show ∀ W, Behind wr W → W.rangeAt g4 0 (encR x) from fun W hW => (HX2.out.below hW HX2.out.lt).all)
      have HY := Lib.hid hy
      clear hr hgl hy
      subst hA
      by_cases hk : y.key = x.key
      · have HQ := Lib.hid (show ∀ w, (binOp .eql 24 (.agg (u8s y.key).toArray) (.agg (u8s x.key).toArray)).run Tryd.prog w = .ok (.bool true) w from fun w => by have h := run_eql_dg w y.key x.key y.hk x.hk; rw [beq_iff_eq.2 hk] at h; exact h)
        clear hk
        go_wp2_with fail
        refine wp_region_class (Behind wr) (by kernel_rfl) (by kernel_rfl) (Below.refl _ _).drew ?_
        iterate 8 (first
          | go_big_quiet_skip
          | (with_reducible refine wpQuiet_loadAll (by with_unfolding_all rfl) 24 _ (by with_unfolding_all rfl) g (off + i * 65) (by with_unfolding_all rfl) (u8s y.key) _ (fun w h => range_key (HRa.out w h)) HUD.out (by with_unfolding_all rfl) (HDG.out _ y.hk) ?_; simp only [Act.put, List.setIfInBounds_toArray, List.set_cons_zero, List.set_cons_succ])
          | (with_reducible refine wpQuiet_loadAll (by with_unfolding_all rfl) 24 _ (by with_unfolding_all rfl) g4 (0) (by with_unfolding_all rfl) (u8s x.key) _ (fun w h => range_key (HRb.out w h)) HUD.out (by with_unfolding_all rfl) (HDG.out _ x.hk) ?_; simp only [Act.put, List.setIfInBounds_toArray, List.set_cons_zero, List.set_cons_succ])
          | (with_reducible refine wpQuiet_bin (by with_unfolding_all rfl) .eql 24 _ _ _ (by with_unfolding_all rfl) (.agg (u8s y.key).toArray) (.agg (u8s x.key).toArray) (.bool true) (by with_unfolding_all rfl) (by with_unfolding_all rfl) (fun w => run_eqGuard_dg w _ _ _ _ _) HQ.out ?_; simp only [Act.put, List.setIfInBounds_toArray, List.set_cons_zero, List.set_cons_succ])
          | (go_big_quiet_step (exact fun _ => rfl)))
        with_reducible refine wpQuiet_nil ?_
        intro w3 hw3
        have HBw3 := Lib.hid (show Below wr.heap.size wr w3 from hw3)
        clear hw3
        go_wp2_with fail
        go_ret
        exact ⟨rfl, HBX.out.trans (HBw3.out.mono HBX.out.size)⟩
      · have HQ := Lib.hid (show ∀ w, (binOp .eql 24 (.agg (u8s y.key).toArray) (.agg (u8s x.key).toArray)).run Tryd.prog w = .ok (.bool false) w from fun w => by have h := run_eql_dg w y.key x.key y.hk x.hk; rw [beq_eq_false_iff_ne.2 hk] at h; exact h)
        have HK := Lib.hid hk
        clear hk
        go_wp2_with fail
        refine wp_region_class (Behind wr) (by kernel_rfl) (by kernel_rfl) (Below.refl _ _).drew ?_
        iterate 8 (first
          | go_big_quiet_skip
          | (with_reducible refine wpQuiet_loadAll (by with_unfolding_all rfl) 24 _ (by with_unfolding_all rfl) g (off + i * 65) (by with_unfolding_all rfl) (u8s y.key) _ (fun w h => range_key (HRa.out w h)) HUD.out (by with_unfolding_all rfl) (HDG.out _ y.hk) ?_; simp only [Act.put, List.setIfInBounds_toArray, List.set_cons_zero, List.set_cons_succ])
          | (with_reducible refine wpQuiet_loadAll (by with_unfolding_all rfl) 24 _ (by with_unfolding_all rfl) g4 (0) (by with_unfolding_all rfl) (u8s x.key) _ (fun w h => range_key (HRb.out w h)) HUD.out (by with_unfolding_all rfl) (HDG.out _ x.hk) ?_; simp only [Act.put, List.setIfInBounds_toArray, List.set_cons_zero, List.set_cons_succ])
          | (with_reducible refine wpQuiet_bin (by with_unfolding_all rfl) .eql 24 _ _ _ (by with_unfolding_all rfl) (.agg (u8s y.key).toArray) (.agg (u8s x.key).toArray) (.bool false) (by with_unfolding_all rfl) (by with_unfolding_all rfl) (fun w => run_eqGuard_dg w _ _ _ _ _) HQ.out ?_; simp only [Act.put, List.setIfInBounds_toArray, List.set_cons_zero, List.set_cons_succ])
          | (go_big_quiet_step (exact fun _ => rfl)))
        with_reducible refine wpQuiet_nil ?_
        intro w3 hw3
        have HBw3 := Lib.hid (show Below wr.heap.size wr w3 from hw3)
        clear hw3
        go_wp2_with fail
        go_roundg (n - (i + 1))
        case measure => omega
        case rel =>
          refine ⟨i + 1, by go_num, by omega, by omega, HBW.out.trans (HBw3.out.mono HBW.out.size), (show Hid _ from fun j h hj => ?_)⟩
          by_cases hji : j = i
          · subst hji
            rw [← HY.out]
            exact HK.out
          · exact HNE.out j h (by omega)
    · have hltz : ¬ (i : Int) < (n : Int) := by omega
      have hne : ∀ y ∈ l, y.key ≠ x.key := fun y hy => by
        obtain ⟨j, hj, rfl⟩ := List.mem_iff_getElem.1 hy
        exact HNE.out j hj (by have := HN.out; omega)
      have HNEW := Lib.hid hne
      have HEr := Lib.hid (HE.out.up HBX.out)
      clear hne HNE hgg hin
      go_wp2_with fail
      refine wp_region_tree (.quiet 1 (.quiet 3 (.two 0 (.two 2 (.one 4 (.one 5 (.quiet 6 .done))) 4 (.one 2 (.one 5 (.quiet 6 .done)))) 4 (.one 0 (.one 2 (.one 5 (.quiet 6 .done))))))) (AtRec g4 x) (by kernel_rfl) (by kernel_rfl) (fun _ _ d _ _ h => by cases d <;> exact h) (by kernel_rfl) (by decide) HX2.out ?_
      refine wpT_val (.slice A n c) (by with_unfolding_all rfl) (by with_unfolding_all rfl) (fun w _ => by with_unfolding_all rfl) ?_
      simp only [Act.put, List.setIfInBounds_toArray, List.set_cons_zero, List.set_cons_succ]
      refine wpT_loadAll (by with_unfolding_all rfl) (by with_unfolding_all rfl) 38 _ (by with_unfolding_all rfl) g4 0 (by with_unfolding_all rfl) (encR x) _ (fun w h => At.all h) HUR.out (by with_unfolding_all rfl) (HLR.out _) ?_
      simp only [Act.put, List.setIfInBounds_toArray, List.set_cons_zero, List.set_cons_succ]
      have hb : Below wr.heap.size wr wr.drew := (Below.refl _ _).drew
      have hS : At wr.drew g4 38 (encR x) := HX2.out
      refine ⟨?way1, ?way2⟩
      case' way1 =>
        refine turn_put (.slice (some ⟨wr.drew.heap.size, 0, none⟩) 0 0) (wr.drew.alloc (.cells #[] 38)) (by with_unfolding_all rfl) (by with_unfolding_all rfl) (exec_none (by with_unfolding_all rfl) Tryd.underlying22 sizeRec wr.drew) (At.alloc hS _) ?_
        simp only [Act.put, List.setIfInBounds_toArray, List.set_cons_zero, List.set_cons_succ]
        replace hS := At.alloc hS (.cells #[] 38)
        have hO32 := own_none (k := 65) (enc := encR) wr.drew 38 (base := wr.heap.size) hb.size
        replace hb := hb.alloc hb.size (.cells #[] 38)
        obtain ⟨g32, hg32⟩ : ∃ g, g = wr.drew.heap.size := ⟨_, rfl⟩
        rw [← hg32] at hO32 ⊢
        have hlt32 : g32 < (wr.drew.alloc (.cells #[] 38)).heap.size := by rw [World.size_alloc]; omega
        clear hg32
        generalize wr.drew.alloc (.cells #[] 38) = w21 at *
        refine ⟨?way3, ?way4⟩
      case' way3 =>
        refine turn_step (by with_unfolding_all rfl) (by with_unfolding_all rfl) (fun K hK => wp_append_enc (enc := encR) (k := 65) (.tmp 32) (.tmp 33) 22 38 72 (by with_unfolding_all rfl) _ Tryd.underlying22 info3Rec (by decide) (by decide) wr.heap.size (.slice (some ⟨g32, 0, none⟩) 0 0) 0 [] l (by with_unfolding_all rfl) hO32 (fun x _ => encR_len x) (fun x _ => encR_one x) A n c (by with_unfolding_all rfl) HN.out (HEr.out.up hb) (by have := HN.out; unfold maxLen; omega) (by have := HN.out; omega) hb.size ?_)
        intro v34 w22 hO34 hg34 _
        have hS2 : At w22 g4 38 (encR x) := At.grown hS hg34 (fun e => by have h1 : g4 = g32 := Option.some.inj e; have h2 := (hO32.lt g32 rfl).1; have h3 := HX2.out.lt; omega)
        refine hK _ _ hS2 ?_
        simp only [Act.put, List.setIfInBounds_toArray, List.set_cons_zero, List.set_cons_succ]
        clear hK hS
        have hS := hS2
        clear hS2
        replace hb := own_below2 hO32 hb (Nat.le_refl _) hb.size hg34
        rw [Nat.zero_add, List.nil_append, ← HN.out] at hO34
        clear hg34 hO32 hlt32
        refine turn_put (.slice (some ⟨w22.heap.size, 0, none⟩) 1 1) (w22.alloc (.cells (([x] : List Rec).flatMap encR).toArray 38)) (by with_unfolding_all rfl) (by with_unfolding_all rfl) (exec_rowsE (enc := encR) 22 38 65 [x] #[(0, .tmp 35)] (by with_unfolding_all rfl) Tryd.underlying22 info2Rec (by omega) (by simp) (by simp) (fun x _ => encR_len x) (by with_unfolding_all rfl) w22) (At.alloc hS _) ?_
        simp only [Act.put, List.setIfInBounds_toArray, List.set_cons_zero, List.set_cons_succ]
        have hE36 := enc_laid (enc := encR) (l := [x]) (fun x _ => encR_len x) w22 38
        replace hS := At.alloc hS (.cells (([x] : List Rec).flatMap encR).toArray 38)
        replace hO34 := hO34.alloc (.cells (([x] : List Rec).flatMap encR).toArray 38)
        replace hb := hb.alloc hb.size (.cells (([x] : List Rec).flatMap encR).toArray 38)
        obtain ⟨g36, hg36⟩ : ∃ g, g = w22.heap.size := ⟨_, rfl⟩
        rw [← hg36] at hE36 ⊢
        clear hg36
        generalize (w22.alloc (.cells (([x] : List Rec).flatMap encR).toArray 38)) = w23 at *
        refine turn_step (by with_unfolding_all rfl) (by with_unfolding_all rfl) (fun K hK => wp_append_enc (enc := encR) (k := 65) (.tmp 34) (.tmp 36) 22 38 72 (by with_unfolding_all rfl) _ Tryd.underlying22 info3Rec (by decide) (by decide) wr.heap.size v34 n l [x] (by with_unfolding_all rfl) hO34 (fun x _ => encR_len x) (fun x _ => encR_one x) (some ⟨g36, 0, none⟩) 1 1 (by with_unfolding_all rfl) rfl hE36 (by unfold maxLen; simp; omega) (by simp; omega) hb.size ?_)
        intro v8 w8 hO8 hg8 _
        have hS2 : At w8 g4 38 (encR x) := At.grown hS hg8 (fun e => by have h2 := (hO34.lt g4 e.symm).1; have h3 := HX2.out.lt; omega)
        refine hK _ _ hS2 ?_
        simp only [Act.put, List.setIfInBounds_toArray, List.set_cons_zero, List.set_cons_succ]
        have hb8 := own_below2 hO34 hb (Nat.le_refl _) hb.size hg8
        clear hK hS hS2 hb hO34 hE36 hg8
        refine wpT_val v8 (by with_unfolding_all rfl) (by with_unfolding_all rfl) (fun w _ => by with_unfolding_all rfl) ?_
        simp only [Act.put, List.setIfInBounds_toArray, List.set_cons_zero, List.set_cons_succ]
        refine wpT_done ?_
      case' way4 =>
        refine turn_put (.slice (some ⟨w21.heap.size, 0, none⟩) 1 1) (w21.alloc (.cells (([x] : List Rec).flatMap encR).toArray 38)) (by with_unfolding_all rfl) (by with_unfolding_all rfl) (exec_rowsE (enc := encR) 22 38 65 [x] #[(0, .tmp 35)] (by with_unfolding_all rfl) Tryd.underlying22 info2Rec (by omega) (by simp) (by simp) (fun x _ => encR_len x) (by with_unfolding_all rfl) w21) (At.alloc hS _) ?_
        simp only [Act.put, List.setIfInBounds_toArray, List.set_cons_zero, List.set_cons_succ]
        have hE36 := enc_laid (enc := encR) (l := [x]) (fun x _ => encR_len x) w21 38
        replace hS := At.alloc hS (.cells (([x] : List Rec).flatMap encR).toArray 38)
        replace hO32 := hO32.alloc (.cells (([x] : List Rec).flatMap encR).toArray 38)
        replace hb := hb.alloc hb.size (.cells (([x] : List Rec).flatMap encR).toArray 38)
        obtain ⟨g36, hg36⟩ : ∃ g, g = w21.heap.size := ⟨_, rfl⟩
        rw [← hg36] at hE36 ⊢
        have hne32 : g36 ≠ g32 := by omega
        clear hlt32
        clear hg36
        generalize (w21.alloc (.cells (([x] : List Rec).flatMap encR).toArray 38)) = w22 at *
        refine turn_step (by with_unfolding_all rfl) (by with_unfolding_all rfl) (fun K hK => wp_append_enc (enc := encR) (k := 65) (.tmp 32) (.tmp 33) 22 38 72 (by with_unfolding_all rfl) _ Tryd.underlying22 info3Rec (by decide) (by decide) wr.heap.size (.slice (some ⟨g32, 0, none⟩) 0 0) 0 [] l (by with_unfolding_all rfl) hO32 (fun x _ => encR_len x) (fun x _ => encR_one x) A n c (by with_unfolding_all rfl) HN.out (HEr.out.up hb) (by have := HN.out; unfold maxLen; omega) (by have := HN.out; omega) hb.size ?_)
        intro v34 w23 hO34 hg34 _
        have hS2 : At w23 g4 38 (encR x) := At.grown hS hg34 (fun e => by have h1 : g4 = g32 := Option.some.inj e; have h2 := (hO32.lt g32 rfl).1; have h3 := HX2.out.lt; omega)
        refine hK _ _ hS2 ?_
        simp only [Act.put, List.setIfInBounds_toArray, List.set_cons_zero, List.set_cons_succ]
        clear hK hS
        have hS := hS2
        clear hS2
        replace hE36 := hE36.grown hg34 (fun g off e => by injection e with e; injection e with e; intro h; have h1 : g = g32 := Option.some.inj h; omega)
        replace hb := own_below2 hO32 hb (Nat.le_refl _) hb.size hg34
        rw [Nat.zero_add, List.nil_append, ← HN.out] at hO34
        clear hg34 hO32 hne32
        refine turn_step (by with_unfolding_all rfl) (by with_unfolding_all rfl) (fun K hK => wp_append_enc (enc := encR) (k := 65) (.tmp 34) (.tmp 36) 22 38 72 (by with_unfolding_all rfl) _ Tryd.underlying22 info3Rec (by decide) (by decide) wr.heap.size v34 n l [x] (by with_unfolding_all rfl) hO34 (fun x _ => encR_len x) (fun x _ => encR_one x) (some ⟨g36, 0, none⟩) 1 1 (by with_unfolding_all rfl) rfl hE36 (by unfold maxLen; simp; omega) (by simp; omega) hb.size ?_)
        intro v8 w8 hO8 hg8 _
        have hS2 : At w8 g4 38 (encR x) := At.grown hS hg8 (fun e => by have h2 := (hO34.lt g4 e.symm).1; have h3 := HX2.out.lt; omega)
        refine hK _ _ hS2 ?_
        simp only [Act.put, List.setIfInBounds_toArray, List.set_cons_zero, List.set_cons_succ]
        have hb8 := own_below2 hO34 hb (Nat.le_refl _) hb.size hg8
        clear hK hS hS2 hb hO34 hE36 hg8
        refine wpT_val v8 (by with_unfolding_all rfl) (by with_unfolding_all rfl) (fun w _ => by with_unfolding_all rfl) ?_
        simp only [Act.put, List.setIfInBounds_toArray, List.set_cons_zero, List.set_cons_succ]
        refine wpT_done ?_
      case' way2 =>
        refine turn_put (.slice (some ⟨wr.drew.heap.size, 0, none⟩) 1 1) (wr.drew.alloc (.cells (([x] : List Rec).flatMap encR).toArray 38)) (by with_unfolding_all rfl) (by with_unfolding_all rfl) (exec_rowsE (enc := encR) 22 38 65 [x] #[(0, .tmp 35)] (by with_unfolding_all rfl) Tryd.underlying22 info2Rec (by omega) (by simp) (by simp) (fun x _ => encR_len x) (by with_unfolding_all rfl) wr.drew) (At.alloc hS _) ?_
        simp only [Act.put, List.setIfInBounds_toArray, List.set_cons_zero, List.set_cons_succ]
        have hE36 := enc_laid (enc := encR) (l := [x]) (fun x _ => encR_len x) wr.drew 38
        replace hS := At.alloc hS (.cells (([x] : List Rec).flatMap encR).toArray 38)
        replace hb := hb.alloc hb.size (.cells (([x] : List Rec).flatMap encR).toArray 38)
        obtain ⟨g36, hg36⟩ : ∃ g, g = wr.drew.heap.size := ⟨_, rfl⟩
        rw [← hg36] at hE36 ⊢
        clear hg36
        generalize (wr.drew.alloc (.cells (([x] : List Rec).flatMap encR).toArray 38)) = w21 at *
        refine turn_put (.slice (some ⟨w21.heap.size, 0, none⟩) 0 0) (w21.alloc (.cells #[] 38)) (by with_unfolding_all rfl) (by with_unfolding_all rfl) (exec_none (by with_unfolding_all rfl) Tryd.underlying22 sizeRec w21) (At.alloc hS _) ?_
        simp only [Act.put, List.setIfInBounds_toArray, List.set_cons_zero, List.set_cons_succ]
        replace hS := At.alloc hS (.cells #[] 38)
        have hO32 := own_none (k := 65) (enc := encR) w21 38 (base := wr.heap.size) hb.size
        have hlt36 : g36 < w21.heap.size := by obtain ⟨g, o, e, h, _⟩ := hE36 (by simp); injection e with e; injection e with e; omega
        replace hE36 := hE36.alloc (.cells #[] 38)
        replace hb := hb.alloc hb.size (.cells #[] 38)
        obtain ⟨g32, hg32⟩ : ∃ g, g = w21.heap.size := ⟨_, rfl⟩
        rw [← hg32] at hO32 ⊢
        have hne32 : g36 ≠ g32 := by omega
        clear hg32
        generalize w21.alloc (.cells #[] 38) = w22 at *
        refine turn_step (by with_unfolding_all rfl) (by with_unfolding_all rfl) (fun K hK => wp_append_enc (enc := encR) (k := 65) (.tmp 32) (.tmp 33) 22 38 72 (by with_unfolding_all rfl) _ Tryd.underlying22 info3Rec (by decide) (by decide) wr.heap.size (.slice (some ⟨g32, 0, none⟩) 0 0) 0 [] l (by with_unfolding_all rfl) hO32 (fun x _ => encR_len x) (fun x _ => encR_one x) A n c (by with_unfolding_all rfl) HN.out (HEr.out.up hb) (by have := HN.out; unfold maxLen; omega) (by have := HN.out; omega) hb.size ?_)
        intro v34 w23 hO34 hg34 _
        have hS2 : At w23 g4 38 (encR x) := At.grown hS hg34 (fun e => by have h1 : g4 = g32 := Option.some.inj e; have h2 := (hO32.lt g32 rfl).1; have h3 := HX2.out.lt; omega)
        refine hK _ _ hS2 ?_
        simp only [Act.put, List.setIfInBounds_toArray, List.set_cons_zero, List.set_cons_succ]
        clear hK hS
        have hS := hS2
        clear hS2
        replace hE36 := hE36.grown hg34 (fun g off e => by injection e with e; injection e with e; intro h; have h1 : g = g32 := Option.some.inj h; omega)
        replace hb := own_below2 hO32 hb (Nat.le_refl _) hb.size hg34
        rw [Nat.zero_add, List.nil_append, ← HN.out] at hO34
        clear hg34 hO32 hne32
        refine turn_step (by with_unfolding_all rfl) (by with_unfolding_all rfl) (fun K hK => wp_append_enc (enc := encR) (k := 65) (.tmp 34) (.tmp 36) 22 38 72 (by with_unfolding_all rfl) _ Tryd.underlying22 info3Rec (by decide) (by decide) wr.heap.size v34 n l [x] (by with_unfolding_all rfl) hO34 (fun x _ => encR_len x) (fun x _ => encR_one x) (some ⟨g36, 0, none⟩) 1 1 (by with_unfolding_all rfl) rfl hE36 (by unfold maxLen; simp; omega) (by simp; omega) hb.size ?_)
        intro v8 w8 hO8 hg8 _
        have hS2 : At w8 g4 38 (encR x) := At.grown hS hg8 (fun e => by have h2 := (hO34.lt g4 e.symm).1; have h3 := HX2.out.lt; omega)
        refine hK _ _ hS2 ?_
        simp only [Act.put, List.setIfInBounds_toArray, List.set_cons_zero, List.set_cons_succ]
        have hb8 := own_below2 hO34 hb (Nat.le_refl _) hb.size hg8
        clear hK hS hS2 hb hO34 hE36 hg8
        refine wpT_val v8 (by with_unfolding_all rfl) (by with_unfolding_all rfl) (fun w _ => by with_unfolding_all rfl) ?_
        simp only [Act.put, List.setIfInBounds_toArray, List.set_cons_zero, List.set_cons_succ]
        refine wpT_done ?_
      all_goals
        obtain ⟨A8, c8, hv8, _, hE8⟩ := hO8.rows (by simp [HN.out]) (fun x _ => encR_len x)
        have hv8' : v8 = .slice A8 (n + 1) c8 := hv8
        subst hv8'
        have HBw8 := Lib.hid (HBX.out.trans (hb8.mono HBX.out.size))
        have HXw8 := Lib.hid (HX2.out.below hb8 HX2.out.lt)
        have HRw8 := Lib.hid (HR2.out.below hb8 HR2.out.lt)
        have HMw8 := Lib.hid hE8
        have HLw8 := Lib.hid (HEr.out.up hb8)
        have HW8 := Lib.hid (HW.out.below HBw8.out HW.out.lt)
        have HNM := Lib.hid (show (l ++ [x]).length = n + 1 by rw [List.length_append, HN.out]; rfl)
        have hn80 : n ≤ 80 := by omega
        have c8a := HRw8.out.depth
        have c8b := HRw8.out.pref
        clear hO8 hb8 hv8 hE8
        by_cases hpl : placeB r.depth r.pref = true
        · have HPL := Lib.hid hpl
          have HOF1 := Lib.hid (show ∀ W, Tab W 0 (u32s Sha.words) → EncIn encR 65 W A l → Calls Tryd.prog 15 #[.int .i64 r.depth, .int .i64 r.pref, .slice A n c] W fun e w' => e = .returned (.tuple #[.agg (encG (ofR r l)).toArray, .int .i64 0]) ∧ Below W.heap.size W w' from fun W hW hE => by rw [HN.out]; exact of_good r hpl A c l W hE (by have := HN.out; omega) hW)
          have HOF2 := Lib.hid (show ∀ W, Tab W 0 (u32s Sha.words) → EncIn encR 65 W A8 (l ++ [x]) → Calls Tryd.prog 15 #[.int .i64 r.depth, .int .i64 r.pref, .slice A8 (n + 1) c8] W fun e w' => e = .returned (.tuple #[.agg (encG (ofR r (l ++ [x]))).toArray, .int .i64 0]) ∧ Below W.heap.size W w' from fun W hW hE => by rw [← HNM.out]; exact of_good r hpl A8 c8 (l ++ [x]) W hE (by have := HNM.out; omega) hW)
          have him := itemsR_more (r := bare r) HNEW.out
          have hia := inB_ofR (r := r) (l := l) hpl (by have := HN.out; omega) x.key
          have HIM := Lib.hid him
          have HIA := Lib.hid hia
          clear hpl him hia
          go_upto_region 15 with (first
            | (go_at_call 15; (with_reducible refine Calls.mono (HOF1.out _ HW8.out HLw8.out) ?_); rintro e w9 ⟨rfl, hb⟩; have HBw9 := Lib.hid (HBw8.out.trans (hb.mono HBw8.out.size)); have HXw9 := Lib.hid (HXw8.out.below hb HXw8.out.lt); have HRw9 := Lib.hid (HRw8.out.below hb HRw8.out.lt); have HMw9 := Lib.hid (HMw8.out.up hb); have HLw9 := Lib.hid (HLw8.out.up hb); clear hb c8a c8b)
            | ((with_reducible refine wpList_allocZ (o := ⟨some 9, _, _, _, _, _⟩) 26 (encG default) rfl rfl zeroRng ?_); intro g9 w10 hg hat hb; have HAT9 := Lib.hid hat; have HBA9 := Lib.hid hb; have HGE9 := Lib.hid hg; clear hat hb hg)
            | ((with_reducible refine wpList_storeAll rfl 26 (.tmp 9) (.tmp 45) rfl g9 rfl _ _ (encG (ofR r l)) HAT9.out rfl (HLL.out _ _) (HLG.out _) (encG_one _) ?_); intro w11 hat hg hs; have hbb := Below.ofGrown HBA9.out hg HBA9.out.size (Nat.le_of_eq HGE9.out.symm); have HZ9w11 := Lib.hid hat; have HBw11 := Lib.hid (HBw9.out.trans (hbb.mono HBw9.out.size)); have HXw11 := Lib.hid (HXw9.out.below hbb HXw9.out.lt); have HRw11 := Lib.hid (HRw9.out.below hbb HRw9.out.lt); have HMw11 := Lib.hid (HMw9.out.up hbb); have HLw11 := Lib.hid (HLw9.out.up hbb); have c11a := HRw11.out.depth; have c11b := HRw11.out.pref; clear hat hg hs hbb)
            | (go_at_call 15; (with_reducible refine Calls.mono (HOF2.out _ (HW.out.below HBw11.out HW.out.lt) HMw11.out) ?_); rintro e w12 ⟨rfl, hb⟩; have HBw12 := Lib.hid (HBw11.out.trans (hb.mono HBw11.out.size)); have HXw12 := Lib.hid (HXw11.out.below hb HXw11.out.lt); have HRw12 := Lib.hid (HRw11.out.below hb HRw11.out.lt); have HMw12 := Lib.hid (HMw11.out.up hb); have HLw12 := Lib.hid (HLw11.out.up hb); have HZ9w12 := Lib.hid (HZ9w11.out.below hb HZ9w11.out.lt); clear hb c11a c11b)
            | ((with_reducible refine wpList_allocZ (o := ⟨some 11, _, _, _, _, _⟩) 26 (encG default) rfl rfl zeroRng ?_); intro g11 w13 hg hat hb; have HAT11 := Lib.hid hat; have HBA11 := Lib.hid hb; have HGE11 := Lib.hid hg; clear hat hb hg)
            | ((with_reducible refine wpList_storeAll rfl 26 (.tmp 11) (.tmp 54) rfl g11 rfl _ _ (encG (ofR r (l ++ [x]))) HAT11.out rfl (HLL.out _ _) (HLG.out _) (encG_one _) ?_); intro w14 hat hg hs; have hbb := Below.ofGrown HBA11.out hg HBA11.out.size (Nat.le_of_eq HGE11.out.symm); have HZ11w14 := Lib.hid hat; have HBw14 := Lib.hid (HBw12.out.trans (hbb.mono HBw12.out.size)); have HXw14 := Lib.hid (HXw12.out.below hbb HXw12.out.lt); have HRw14 := Lib.hid (HRw12.out.below hbb HRw12.out.lt); have HMw14 := Lib.hid (HMw12.out.up hbb); have HLw14 := Lib.hid (HLw12.out.up hbb); have HZ9w14 := Lib.hid (HZ9w12.out.below hbb HZ9w12.out.lt); clear hat hg hs hbb))
          have HZA := Lib.hid (show ∀ W, Calls Tryd.prog 22 #[.agg (encG (ofR r l)).toArray, .agg (u8s x.key).toArray] W fun e w' => e = .returned (.bool (inB (bare r) x.key)) ∧ Below W.heap.size W w' from fun W => by rw [← HIA.out]; exact in_any _ x.key x.hk W)
          cases hin : inB (bare r) x.key with
          | false =>
            rw [hin] at HZA
            have HEQ := Lib.hid (show ∀ w, (binOp .eql 26 (.agg (encG (ofR r l)).toArray) (.agg (encG (ofR r (l ++ [x]))).toArray)).run Tryd.prog w = .ok (.bool true) w from fun w => by
              have h := run_eql_rng w (ofR r l) (ofR r (l ++ [x]))
              rw [decide_eq_true (ofR_same (HIM.out.2 hin).symm)] at h
              exact h)
            have HGq := Lib.hid (show ∀ w op x' y' (a b : Rng), (eqGuard op 26 x' y' (.agg (encG a).toArray) (.agg (encG b).toArray)).run Tryd.prog w = .ok () w from fun w op x' y' a b => run_eqGuard_rng w op x' y' a b)
            clear hin
            go_wp2_with (first
            | (with_reducible refine wpList_loadAll rfl 26 (.tmp 9) rfl g9 rfl _ _ _ HZ9w14.out Tryd.underlying26 rfl (HLG.out _) ?_)
            | (with_reducible refine wpList_load_mid rfl 24 (.tmp 66) rfl _ 0 rfl _ _ HXw14.out.key Tryd.underlying24 rfl (HDG.out _ x.hk) ?_)
            | (go_at_call 22; (with_reducible refine Calls.mono (HZA.out _) ?_); rintro e w15 ⟨rfl, hb⟩; have HBw15 := Lib.hid (HBw14.out.trans (hb.mono HBw14.out.size)); have HZ9w15 := Lib.hid (HZ9w14.out.below hb HZ9w14.out.lt); have HZ11w15 := Lib.hid (HZ11w14.out.below hb HZ11w14.out.lt); have HMw15 := Lib.hid (HMw14.out.up hb); have HLw15 := Lib.hid (HLw14.out.up hb); clear hb)
            | (with_reducible refine wpList_loadAll rfl 26 (.tmp 9) rfl g9 rfl _ _ _ HZ9w15.out Tryd.underlying26 rfl (HLG.out _) ?_)
            | (with_reducible refine wpList_loadAll rfl 26 (.tmp 11) rfl g11 rfl _ _ _ HZ11w15.out Tryd.underlying26 rfl (HLG.out _) ?_)
            | (with_reducible refine wpList_eq (.bool true) (by with_unfolding_all rfl) .eql 26 (.tmp 70) (.tmp 71) 26 rfl (.agg (encG (ofR r l)).toArray) (.agg (encG (ofR r (l ++ [x]))).toArray) (by with_unfolding_all rfl) (by with_unfolding_all rfl) (fun w => HGq.out w _ _ _ _ _) HEQ.out ?_))
            go_ret
            exact ⟨rfl, HBw15.out⟩
          | true =>
            rw [hin] at HZA
            obtain ⟨La, hLa⟩ : ∃ La, La = (itemsR (bare r) l).length := ⟨_, rfl⟩
            have hLb : (itemsR (bare r) (l ++ [x])).length = La + 1 := by rw [HIM.out.1, hin, hLa]; rfl
            have hLn : La ≤ 80 := by have := itemsR_len (bare r) l; have := HN.out; omega
            have hca : (ofR r l).count = (La : Int) := by rw [count_ofR r l (by have := HN.out; omega), hLa]
            have hcb : (ofR r (l ++ [x])).count = (La : Int) + 1 := by rw [count_ofR r _ (by have := HNM.out; omega), hLb]; omega
            have hia2 : itemsR (ofR r (l ++ [x])) (l ++ [x]) = itemsR (bare r) (l ++ [x]) := itemsR_ofR HPL.out (by have := HNM.out; omega) _
            have hia1 : itemsR (ofR r l) l = itemsR (bare r) l := itemsR_ofR HPL.out (by have := HN.out; omega) _
            have HCA := Lib.hid hca
            have HCB := Lib.hid hcb
            have HI1 := Lib.hid (show (itemsR (ofR r l) l).length = La by rw [hia1, hLa])
            have HI2 := Lib.hid (show (itemsR (ofR r (l ++ [x])) (l ++ [x])).length = La + 1 by rw [hia2, hLb])
            clear hin hLa hLb hca hcb hia1 hia2
            go_upto_region 17 with (first
            | (with_reducible refine wpList_loadAll rfl 26 (.tmp 9) rfl g9 rfl _ _ _ HZ9w14.out Tryd.underlying26 rfl (HLG.out _) ?_)
            | (with_reducible refine wpList_load_mid rfl 24 (.tmp 66) rfl _ 0 rfl _ _ HXw14.out.key Tryd.underlying24 rfl (HDG.out _ x.hk) ?_)
            | (go_at_call 22; (with_reducible refine Calls.mono (HZA.out _) ?_); rintro e w15 ⟨rfl, hb⟩; have HBw15 := Lib.hid (HBw14.out.trans (hb.mono HBw14.out.size)); have HZ9w15 := Lib.hid (HZ9w14.out.below hb HZ9w14.out.lt); have HZ11w15 := Lib.hid (HZ11w14.out.below hb HZ11w14.out.lt); have HMw15 := Lib.hid (HMw14.out.up hb); have HLw15 := Lib.hid (HLw14.out.up hb); clear hb))
            have HS9 := Lib.hid (show ∀ W, Behind w15 W → At W g9 26 (encG (ofR r l)) from fun W h => HZ9w15.out.below h HZ9w15.out.lt)
            have HS11 := Lib.hid (show ∀ W, Behind w15 W → At W g11 26 (encG (ofR r (l ++ [x]))) from fun W h => HZ11w15.out.below h HZ11w15.out.lt)
            have HSM := Lib.hid (show ∀ W, Behind w15 W → EncIn encR 65 W A8 (l ++ [x]) from fun W h => HMw15.out.up h)
            have HSL := Lib.hid (show ∀ W, Behind w15 W → EncIn encR 65 W A l from fun W h => HLw15.out.up h)
            refine wp_region_mix [(0, true), (1, true), (2, true), (3, true), (4, true), (5, true), (6, true), (7, true), (8, true), (11, true), (12, true), (9, false), (10, true), (13, false), (14, true), (15, true), (16, true), (17, true), (18, true)] (Behind w15)
              (by kernel_rfl) (by kernel_rfl) (fun _ _ d _ _ h => by cases d <;> exact h) (by kernel_rfl) (by decide) (Below.refl _ _).drew ?_
            have hz0 : Behind w15 w15.drew := (Below.refl _ _).drew
            refine wpMix_val (.pointer (some ⟨g11, 2, none⟩)) (by with_unfolding_all rfl) (by with_unfolding_all rfl) (fun w _ => by go_simp) ?_
            simp only [Act.put, List.setIfInBounds_toArray, List.set_cons_zero, List.set_cons_succ]
            refine wpMix_load1 (.int .i64 ((La : Int) + 1)) (by with_unfolding_all rfl) (by with_unfolding_all rfl) 3 _ (by with_unfolding_all rfl) .i64 HUI.out g11 (2) (by with_unfolding_all rfl) (fun w h => by have := (HS11.out w h).count; rwa [HCB.out] at this) ?_
            simp only [Act.put, List.setIfInBounds_toArray, List.set_cons_zero, List.set_cons_succ]
            refine wpMix_val (.pointer (some ⟨g9, 2, none⟩)) (by with_unfolding_all rfl) (by with_unfolding_all rfl) (fun w _ => by go_simp) ?_
            simp only [Act.put, List.setIfInBounds_toArray, List.set_cons_zero, List.set_cons_succ]
            refine wpMix_load1 (.int .i64 (La : Int)) (by with_unfolding_all rfl) (by with_unfolding_all rfl) 3 _ (by with_unfolding_all rfl) .i64 HUI.out g9 (2) (by with_unfolding_all rfl) (fun w h => by have := (HS9.out w h).count; rwa [HCA.out] at this) ?_
            simp only [Act.put, List.setIfInBounds_toArray, List.set_cons_zero, List.set_cons_succ]
            refine wpMix_val (.int .i64 ((La : Int) + 1)) (by with_unfolding_all rfl) (by with_unfolding_all rfl) (fun w _ => exec_add (.tmp 76) (.const (.int .i64 1)) _ (by with_unfolding_all rfl) (by with_unfolding_all rfl) (by with_unfolding_all rfl) (by omega) w) ?_
            simp only [Act.put, List.setIfInBounds_toArray, List.set_cons_zero, List.set_cons_succ]
            refine wpMix_val (.bool true) (by with_unfolding_all rfl) (by with_unfolding_all rfl) (fun w _ => exec_eqi (.tmp 74) (.tmp 77) _ (by with_unfolding_all rfl) (by with_unfolding_all rfl) (by with_unfolding_all rfl) w) ?_
            simp only [Act.put, List.setIfInBounds_toArray, List.set_cons_zero, List.set_cons_succ]
            refine wpMix_val (.bool true) (by with_unfolding_all rfl) (by with_unfolding_all rfl) (fun w _ => by with_unfolding_all rfl) ?_
            simp only [Act.put, List.setIfInBounds_toArray, List.set_cons_zero, List.set_cons_succ]
            refine wpMix_loadAll (by with_unfolding_all rfl) (by with_unfolding_all rfl) 26 _ (by with_unfolding_all rfl) g11 (0) (by with_unfolding_all rfl) (encG (ofR r (l ++ [x]))) _ (fun w h => (HS11.out w h).all) Tryd.underlying26 (by with_unfolding_all rfl) (HLG.out _) ?_
            simp only [Act.put, List.setIfInBounds_toArray, List.set_cons_zero, List.set_cons_succ]
            refine wpMix_val (.slice A8 (n + 1) c8) (by with_unfolding_all rfl) (by with_unfolding_all rfl) (fun w _ => by with_unfolding_all rfl) ?_
            simp only [Act.put, List.setIfInBounds_toArray, List.set_cons_zero, List.set_cons_succ]
            refine wpMix_loadAll (by with_unfolding_all rfl) (by with_unfolding_all rfl) 26 _ (by with_unfolding_all rfl) g9 (0) (by with_unfolding_all rfl) (encG (ofR r l)) _ (fun w h => (HS9.out w h).all) Tryd.underlying26 (by with_unfolding_all rfl) (HLG.out _) ?_
            simp only [Act.put, List.setIfInBounds_toArray, List.set_cons_zero, List.set_cons_succ]
            refine wpMix_val (.slice A n c) (by with_unfolding_all rfl) (by with_unfolding_all rfl) (fun w _ => by with_unfolding_all rfl) ?_
            simp only [Act.put, List.setIfInBounds_toArray, List.set_cons_zero, List.set_cons_succ]
            refine wpMix_call 17 [.agg (encG (ofR r (l ++ [x]))).toArray, .slice A8 (n + 1) c8] (fun v w' => ∃ A c, v = .slice A (La + 1) c) (by with_unfolding_all rfl) (by with_unfolding_all rfl) (by with_unfolding_all rfl) ((items_at (ofR r (l ++ [x])) A8 c8 (l ++ [x]) _ (n + 1) HNM.out.symm (HSM.out _ hz0) (by omega)).mono (fun e w' ⟨v, he, hO, hb⟩ => by
              obtain ⟨A, c, hv, _, _⟩ := hO.rows rfl (fun x _ => encR_len x)
              rw [HI2.out] at hv
              exact ⟨v, he, Below.trans hz0 (hb.mono (Below.size hz0)), A, c, hv⟩)) ?_
            rintro v1 z1 hz1 ⟨A1x, c1x, hv1⟩
            subst hv1
            simp only [Act.put, List.setIfInBounds_toArray, List.set_cons_zero, List.set_cons_succ]
            refine wpMix_val (.int .i64 ((La : Int) + 1)) (by with_unfolding_all rfl) (by with_unfolding_all rfl) (fun w _ => exec_len Tryd.underlying22 (.tmp 82) (by with_unfolding_all rfl) (by with_unfolding_all rfl) (by omega) w) ?_
            simp only [Act.put, List.setIfInBounds_toArray, List.set_cons_zero, List.set_cons_succ]
            refine wpMix_call 17 [.agg (encG (ofR r l)).toArray, .slice A (n) c] (fun v w' => ∃ A c, v = .slice A (La) c) (by with_unfolding_all rfl) (by with_unfolding_all rfl) (by with_unfolding_all rfl) ((items_at (ofR r l) A c l _ (n) HN.out (HSL.out _ hz1) (by omega)).mono (fun e w' ⟨v, he, hO, hb⟩ => by
              obtain ⟨A, c, hv, _, _⟩ := hO.rows rfl (fun x _ => encR_len x)
              rw [HI1.out] at hv
              exact ⟨v, he, Below.trans hz1 (hb.mono (Below.size hz1)), A, c, hv⟩)) ?_
            rintro v2 z2 hz2 ⟨A2x, c2x, hv2⟩
            subst hv2
            simp only [Act.put, List.setIfInBounds_toArray, List.set_cons_zero, List.set_cons_succ]
            refine wpMix_val (.int .i64 (La : Int)) (by with_unfolding_all rfl) (by with_unfolding_all rfl) (fun w _ => exec_len Tryd.underlying22 (.tmp 86) (by with_unfolding_all rfl) (by with_unfolding_all rfl) rfl w) ?_
            simp only [Act.put, List.setIfInBounds_toArray, List.set_cons_zero, List.set_cons_succ]
            refine wpMix_val (.int .i64 ((La : Int) + 1)) (by with_unfolding_all rfl) (by with_unfolding_all rfl) (fun w _ => exec_add (.tmp 87) (.const (.int .i64 1)) _ (by with_unfolding_all rfl) (by with_unfolding_all rfl) (by with_unfolding_all rfl) (by omega) w) ?_
            simp only [Act.put, List.setIfInBounds_toArray, List.set_cons_zero, List.set_cons_succ]
            refine wpMix_val (.bool true) (by with_unfolding_all rfl) (by with_unfolding_all rfl) (fun w _ => exec_eqi (.tmp 83) (.tmp 88) _ (by with_unfolding_all rfl) (by with_unfolding_all rfl) (by with_unfolding_all rfl) w) ?_
            simp only [Act.put, List.setIfInBounds_toArray, List.set_cons_zero, List.set_cons_succ]
            refine wpMix_val (.bool true) (by with_unfolding_all rfl) (by with_unfolding_all rfl) (fun w _ => by with_unfolding_all rfl) ?_
            simp only [Act.put, List.setIfInBounds_toArray, List.set_cons_zero, List.set_cons_succ]
            refine wpMix_val (.bool true) (by with_unfolding_all rfl) (by with_unfolding_all rfl) (fun w _ => by with_unfolding_all rfl) ?_
            simp only [Act.put, List.setIfInBounds_toArray, List.set_cons_zero, List.set_cons_succ]
            refine wpMix_nil ?_
            go_wp2_with fail
            go_ret
            exact ⟨rfl, HBw15.out.trans (Below.mono hz2 HBw15.out.size)⟩
        · have hq : placeB r.depth r.pref = false := by simpa using hpl
          have HOF1 := Lib.hid (show ∀ W, Tab W 0 (u32s Sha.words) → EncIn encR 65 W A l → Calls Tryd.prog 15 #[.int .i64 r.depth, .int .i64 r.pref, .slice A n c] W fun e w' => e = .returned (.tuple #[.agg (encG Rng.zero).toArray, .int .i64 1]) ∧ Below W.heap.size W w' from fun W _ _ => of_bad r hq A n c W)
          have HOF2 := Lib.hid (show ∀ W, Tab W 0 (u32s Sha.words) → EncIn encR 65 W A8 (l ++ [x]) → Calls Tryd.prog 15 #[.int .i64 r.depth, .int .i64 r.pref, .slice A8 (n + 1) c8] W fun e w' => e = .returned (.tuple #[.agg (encG Rng.zero).toArray, .int .i64 1]) ∧ Below W.heap.size W w' from fun W _ _ => of_bad r hq A8 (n + 1) c8 W)
          clear hpl hq
          go_wp2_with (first
            | (go_at_call 15; (with_reducible refine Calls.mono (HOF1.out _ HW8.out HLw8.out) ?_); rintro e w9 ⟨rfl, hb⟩; have HBw9 := Lib.hid (HBw8.out.trans (hb.mono HBw8.out.size)); have HXw9 := Lib.hid (HXw8.out.below hb HXw8.out.lt); have HRw9 := Lib.hid (HRw8.out.below hb HRw8.out.lt); have HMw9 := Lib.hid (HMw8.out.up hb); have HLw9 := Lib.hid (HLw8.out.up hb); clear hb c8a c8b)
            | ((with_reducible refine wpList_allocZ (o := ⟨some 9, _, _, _, _, _⟩) 26 (encG default) rfl rfl zeroRng ?_); intro g9 w10 hg hat hb; have HAT9 := Lib.hid hat; have HBA9 := Lib.hid hb; have HGE9 := Lib.hid hg; clear hat hb hg)
            | ((with_reducible refine wpList_storeAll rfl 26 (.tmp 9) (.tmp 45) rfl g9 rfl _ _ (encG Rng.zero) HAT9.out rfl (HLL.out _ _) (HLG.out _) (encG_one _) ?_); intro w11 hat hg hs; have hbb := Below.ofGrown HBA9.out hg HBA9.out.size (Nat.le_of_eq HGE9.out.symm); have HZ9w11 := Lib.hid hat; have HBw11 := Lib.hid (HBw9.out.trans (hbb.mono HBw9.out.size)); have HXw11 := Lib.hid (HXw9.out.below hbb HXw9.out.lt); have HRw11 := Lib.hid (HRw9.out.below hbb HRw9.out.lt); have HMw11 := Lib.hid (HMw9.out.up hbb); have HLw11 := Lib.hid (HLw9.out.up hbb); have c11a := HRw11.out.depth; have c11b := HRw11.out.pref; clear hat hg hs hbb)
            | (go_at_call 15; (with_reducible refine Calls.mono (HOF2.out _ (HW.out.below HBw11.out HW.out.lt) HMw11.out) ?_); rintro e w12 ⟨rfl, hb⟩; have HBw12 := Lib.hid (HBw11.out.trans (hb.mono HBw11.out.size)); have HXw12 := Lib.hid (HXw11.out.below hb HXw11.out.lt); have HRw12 := Lib.hid (HRw11.out.below hb HRw11.out.lt); have HMw12 := Lib.hid (HMw11.out.up hb); have HLw12 := Lib.hid (HLw11.out.up hb); have HZ9w12 := Lib.hid (HZ9w11.out.below hb HZ9w11.out.lt); clear hb c11a c11b)
            | ((with_reducible refine wpList_allocZ (o := ⟨some 11, _, _, _, _, _⟩) 26 (encG default) rfl rfl zeroRng ?_); intro g11 w13 hg hat hb; have HAT11 := Lib.hid hat; have HBA11 := Lib.hid hb; have HGE11 := Lib.hid hg; clear hat hb hg)
            | ((with_reducible refine wpList_storeAll rfl 26 (.tmp 11) (.tmp 54) rfl g11 rfl _ _ (encG Rng.zero) HAT11.out rfl (HLL.out _ _) (HLG.out _) (encG_one _) ?_); intro w14 hat hg hs; have hbb := Below.ofGrown HBA11.out hg HBA11.out.size (Nat.le_of_eq HGE11.out.symm); have HZ11w14 := Lib.hid hat; have HBw14 := Lib.hid (HBw12.out.trans (hbb.mono HBw12.out.size)); have HXw14 := Lib.hid (HXw12.out.below hbb HXw12.out.lt); have HRw14 := Lib.hid (HRw12.out.below hbb HRw12.out.lt); have HMw14 := Lib.hid (HMw12.out.up hbb); have HLw14 := Lib.hid (HLw12.out.up hbb); have HZ9w14 := Lib.hid (HZ9w12.out.below hbb HZ9w12.out.lt); clear hat hg hs hbb))
          go_ret
          exact ⟨rfl, HBw14.out⟩
end Go.Proofs.YtefbllhpibfojaaDoor
