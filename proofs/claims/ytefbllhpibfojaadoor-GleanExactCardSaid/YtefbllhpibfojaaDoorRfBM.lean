/- The reference's Sort of layer 15: the walk. -/
import Derived.Test.YtefbllhpibfojaaDoorRfPM
import Derived.Test.YtefbllhpibfojaaDoorRfAM
import Derived.Test.YtefbllhpibfojaaDoorQRefAM
import Derived.Test.YtefbllhpibfojaaDoorGrpJ
namespace Go.Proofs.YtefbllhpibfojaaDoor
open Go.Proofs Stab Go.Shelf Go.RowKit Go.Lib Go.Sort

theorem Behind.tr {a b c : World} (h : Behind a b) (k : Behind b c) : Behind a c := Below.trans h (Below.mono k (Below.size h))
set_option maxRecDepth 100000 in
set_option maxHeartbeats 16000000 in
theorem refsort_own (A : Option Addr) (c : Nat) (l : List Rec) (w : World) (n N : Nat) (hln : n = l.length) (hN : N = (sortR l).length) (hE : EncIn encR 65 w A l) (hn : n < 1099511627776) :
    Calls Tryd.prog 28 #[.slice A n c] w fun e w' => ∃ v, e = .returned v ∧ Own w' w.heap.size 38 65 v N ((sortR l).flatMap encR) ∧ Below w.heap.size w w' := by
  have HE := Lib.hid (show ∀ W, Behind w W → EncIn encR 65 W A l from fun W h => hE.up h)
  have HLN := Lib.hid hln
  have HN := Lib.hid hN
  have HUD := Lib.hid Tryd.underlying24
  have HDG := Lib.hid (show ∀ l : List UInt8, l.length = 32 → (Tryd.prog.info? 24).map (·.size) = some (u8s l).length from fun l hl => by rw [u8s_length, hl]; exact infoDg)
  have HLR := Lib.hid (show ∀ x, (Tryd.prog.info? 38).map (·.size) = some (encR x).length from fun x => by rw [encR_len]; exact infoRec)
  have HLESS := Lib.hid (show ∀ (x y : Rec) W, Calls Tryd.prog 62 #[.agg (u8s x.key).toArray, .agg (u8s y.key).toArray] W fun e w' => e = .returned (.bool (lessB x.key y.key)) ∧ Below W.heap.size W w' from fun x y W => refless_any x.key y.key x.hk y.hk W)
  clear hE hln hN
  go_enter Tryd.func28, Tryd.ntmps28
  go_wp2_with (first
    | ((with_reducible refine wpList_to (.slice (some ⟨w.heap.size, 0, none⟩) 0 0) (w.alloc (.cells #[] 38)) rfl (exec_none rfl Tryd.underlying22 sizeRec w) ?_)))
  have hO0 := own_none (k := 65) (enc := encR) w 38 (base := w.heap.size) (Nat.le_refl _)
  have hb0 : Below w.heap.size w (w.alloc (.cells #[] 38)) := (Below.refl _ _).alloc (Nat.le_refl _) _
  have HO0 := Lib.hid hO0
  have HB0 := Lib.hid hb0
  clear hO0 hb0
  generalize w.alloc (.cells #[] 38) = w1 at HO0 HB0 ⊢
  go_loopg [3, 4] n (fun gg s3 s4 wr => ∃ (i M : Nat) (v : Value), v = s3 ∧ s4 = .int .i64 i ∧ i ≤ n ∧ n - i ≤ gg ∧ M ≤ i ∧ Hid (M = (sortR (l.take i)).length) ∧ Hid (Own wr w.heap.size 38 65 v M ((sortR (l.take i)).flatMap encR)) ∧ Hid (Below w.heap.size w wr))
  case atStart => exact ⟨0, 0, _, rfl, rfl, Nat.zero_le _, by omega, Nat.le_refl _, (show Hid _ from (rfl : 0 = (sortR (l.take 0)).length)), HO0.out, HB0.out⟩
  case round =>
    obtain ⟨i, M, v, hv, rfl, hi, hgg, hMi, HM, HO, HBW⟩ := hrel
    subst hv
    generalize wr = wo at *
    by_cases hlt : i < n
    · have hltz : (i : Int) < (n : Int) := by omega
      have i0 : (0 : Int) ≤ (i : Int) := by omega
      have hil : i < l.length := by have := HLN.out; omega
      obtain ⟨gL, offL, hA, hgL, hrgL⟩ := (HE.out w (Behind.refl w)).at hil
      obtain ⟨x, hx⟩ : ∃ x, x = l[i] := ⟨_, rfl⟩
      rw [← hx] at hrgL
      have HRX := Lib.hid (show ∀ W, Behind w W → W.rangeAt gL (offL + i * 65) (encR x) from fun W hW => range_below' hrgL hW hgL)
      have HX := Lib.hid hx
      obtain ⟨out, hout⟩ : ∃ o, o = sortR (l.take i) := ⟨_, rfl⟩
      have HOUT := Lib.hid hout
      have hO := HO.out
      have hM := HM.out
      rw [← hout] at hO hM
      obtain ⟨A3, c3, rfl, hc3, hE3⟩ := hO.rows hM (fun x _ => encR_len x)
      have HEO := Lib.hid (show ∀ W, Behind wo W → EncIn encR 65 W A3 out from fun W h => hE3.up h)
      have HML := Lib.hid hM
      have hlI : (out.foldl (stepI x) ([], false)).1.length ≤ M + 1 := by have := stepI_len x out [] false; simp at this; omega
      clear hrgL hx hout hO hM hE3 hgL
      subst hA
      go_wp2_with (first
        | ((with_reducible refine wpList_to (.slice (some ⟨wo.heap.size, 0, none⟩) 0 0) (wo.alloc (.cells #[] 38)) rfl (exec_none rfl Tryd.underlying22 sizeRec wo) ?_)))
      have hO5 := own_none (k := 65) (enc := encR) wo 38 (base := wo.heap.size) (Nat.le_refl _)
      have hb5 : Below wo.heap.size wo (wo.alloc (.cells #[] 38)) := (Below.refl _ _).alloc (Nat.le_refl _) _
      have HO5 := Lib.hid hO5
      have HB5 := Lib.hid hb5
      clear hO5 hb5
      generalize wo.alloc (.cells #[] 38) = w5 at HO5 HB5 ⊢
      have HBR := Lib.hid (show Behind w wo from HBW.out)
      go_loopg [5, 6, 7] M (fun gg s5 s6 s7 wr => ∃ (k K : Nat) (v5 : Value) (d : Bool) (acc : List Rec), v5 = s5 ∧ s6 = .bool d ∧ s7 = .int .i64 k ∧ k ≤ M ∧ M - k ≤ gg ∧ K ≤ k + 1 ∧ Hid (K = acc.length) ∧ Hid ((out.take k).foldl (stepI x) ([], false) = (acc, d)) ∧ Hid (Own wr wo.heap.size 38 65 v5 K (acc.flatMap encR)) ∧ Hid (Below wo.heap.size wo wr))
      case atStart => exact ⟨0, 0, _, false, [], rfl, rfl, rfl, Nat.zero_le _, by omega, by omega, (show Hid _ from (rfl : 0 = ([] : List Rec).length)), (show Hid _ from (rfl : ((out.take 0).foldl (stepI x) ([], false)) = ([], false))), HO5.out, HB5.out⟩
      case round =>
        obtain ⟨k, K, v5, d, acc, hv5, rfl, rfl, hk, hkk, hKk, HK, HF, HOA, HBK⟩ := hrel
        subst hv5
        have HBKs := HBK.out.size
        have HQK := Lib.hid (show Behind wo wr from HBK.out)
        by_cases hlk : k < M
        · have hlkz : (k : Int) < (M : Int) := by omega
          have k0 : (0 : Int) ≤ (k : Int) := by omega
          have hkl : k < out.length := by have := HML.out; omega
          obtain ⟨gO, offO, hA3, hgO, hrgO⟩ := (HEO.out wo (Behind.refl wo)).at hkl
          obtain ⟨y, hy⟩ : ∃ y, y = out[k] := ⟨_, rfl⟩
          rw [← hy] at hrgO
          have HRY := Lib.hid (show ∀ W, Behind wo W → W.rangeAt gO (offO + k * 65) (encR y) from fun W hW => range_below' hrgO hW hgO)
          have hstep := stepI_snoc x out k hkl
          rw [HF.out, ← hy] at hstep
          have HST := Lib.hid hstep
          have HKX := Lib.hid (show ∀ W, Behind wr W → W.rangeAt gL (offL + i * 65) (u8s x.key) from fun W h => rec_key (HRX.out W (Behind.tr HBR.out (Behind.tr HQK.out h))))
          have HKY := Lib.hid (show ∀ W, Behind wr W → W.rangeAt gO (offO + k * 65) (u8s y.key) from fun W h => rec_key (HRY.out W (Behind.tr HQK.out h)))
          clear hrgO hy hstep hgO
          subst hA3
          by_cases he : y.key = x.key
          · have HQ := Lib.hid (show ∀ w, (binOp .eql 24 (.agg (u8s y.key).toArray) (.agg (u8s x.key).toArray)).run Tryd.prog w = .ok (.bool true) w from fun w => by have h := run_eql_dg w y.key x.key y.hk x.hk; rw [beq_iff_eq.2 he] at h; exact h)
            have hs : (out.take (k + 1)).foldl (stepI x) ([], false) = (acc ++ [y], true) := by rw [HST.out]; unfold stepI; rw [if_pos he]
            have HS := Lib.hid hs
            clear he hs
            go_wp2_with fail
            refine wp_region_class (Behind wr) (by kernel_rfl) (by kernel_rfl) (Below.refl _ _).drew ?_
            iterate 11 (first
              | go_big_quiet_skip
              | ((with_reducible refine wpQuiet_loadAll (by with_unfolding_all rfl) 24 _ (by with_unfolding_all rfl) gO (offO + k * 65) (by with_unfolding_all rfl) (u8s y.key) _ (fun w h => HKY.out w h) HUD.out (by with_unfolding_all rfl) (HDG.out _ y.hk) ?_); simp only [Act.put, List.setIfInBounds_toArray, List.set_cons_zero, List.set_cons_succ])
              | ((with_reducible refine wpQuiet_loadAll (by with_unfolding_all rfl) 24 _ (by with_unfolding_all rfl) gL (offL + i * 65) (by with_unfolding_all rfl) (u8s x.key) _ (fun w h => HKX.out w h) HUD.out (by with_unfolding_all rfl) (HDG.out _ x.hk) ?_); simp only [Act.put, List.setIfInBounds_toArray, List.set_cons_zero, List.set_cons_succ])
              | ((with_reducible refine wpQuiet_bin (by with_unfolding_all rfl) .eql 24 _ _ _ (by with_unfolding_all rfl) (.agg (u8s y.key).toArray) (.agg (u8s x.key).toArray) (.bool _) (by with_unfolding_all rfl) (by with_unfolding_all rfl) (fun w => run_eqGuard_dg w _ _ _ _ _) HQ.out ?_); simp only [Act.put, List.setIfInBounds_toArray, List.set_cons_zero, List.set_cons_succ])
              | (go_big_quiet_step (exact fun _ => rfl)))
            with_reducible refine wpQuiet_nil ?_
            intro w10 hw10
            have HQ10 := Lib.hid (show Behind wr w10 from hw10)
            have HO10 := Lib.hid (HOA.out.below HQ10.out)
            have HB10 := Lib.hid (show Below wo.heap.size wo w10 from Behind.tr HQK.out HQ10.out)
            have HB10s := HB10.out.size
            have HX10 := Lib.hid (HRX.out _ (Behind.tr HBR.out HB10.out))
            have HY10 := Lib.hid (HRY.out _ HB10.out)
            clear hw10
            go_upto_region 12 with fail
            refine wp_region_mix [(0, true), (1, true), (2, true), (3, true), (4, true), (5, true), (6, true), (7, true), (8, true), (9, true), (10, true), (11, true), (12, true), (13, false), (14, true)] (Behind w10)
              (by kernel_rfl) (by kernel_rfl) (fun _ _ d _ _ h => by cases d <;> exact h) (by kernel_rfl) (by decide) (Below.refl _ _).drew ?_
            have hz0 : Behind w10 w10.drew := (Below.refl _ _).drew
            repeat (
              refine wpMix_q (by with_unfolding_all rfl) (by kernel_rfl) ?_
              first
                | go_big_quiet_skip
                | (go_big_quiet_step (exact fun _ => rfl))
              refine wpMix_qnil ?_)
            refine wpMix_skip (by with_unfolding_all rfl) (by with_unfolding_all rfl) hz0 ?_
            simp only [Act.put, List.setIfInBounds_toArray, List.set_cons_zero, List.set_cons_succ]
            repeat (
              refine wpMix_q (by with_unfolding_all rfl) (by kernel_rfl) ?_
              first
                | go_big_quiet_skip
                | (go_big_quiet_step (exact fun _ => rfl))
              refine wpMix_qnil ?_)
            refine wpMix_nil ?_
            have hz1 : Behind w10 w10.drew := hz0
            generalize w10.drew = z1 at hz1 ⊢
            have HQ12 := Lib.hid (show Behind w10 z1 from hz1)
            have HO12 := Lib.hid (HO10.out.below HQ12.out)
            have HB12 := Lib.hid (show Below wo.heap.size wo z1 from Behind.tr HB10.out HQ12.out)
            have HB12s := HB12.out.size
            have HX12 := Lib.hid (HRX.out _ (Behind.tr HBR.out HB12.out))
            have HY12 := Lib.hid (HRY.out _ HB12.out)
            clear hz1 hz0
            have hlacc : K + 1 ≤ k + 1 + 1 := by omega
            go_wp2_with (first
              | (with_reducible refine wpList_loadW (by with_unfolding_all rfl) 38 (.tmp 58) rfl gO (offO + k * 65) (by with_unfolding_all rfl) (encR y) _ (HY12.out) Tryd.underlying38 (by with_unfolding_all rfl) (HLR.out y) ?_)
              | ((with_reducible refine wpList_one rfl 22 38 65 y (.tmp 59) rfl (by with_unfolding_all rfl) Tryd.underlying22 info2Rec (by decide) (by decide) (encR_len y) ?_); intro g60 u1 hg hb hE; have HEO60 := Lib.hid hE; have HBO60 := Lib.hid hb; clear hg hb hE)
              | (at_builtin; refine wpList_append_enc (enc := encR) (k := 65) rfl rfl (.tmp 55) (.tmp 60) 22 38 72 rfl _ Tryd.underlying22 info3Rec rfl (by decide) wo.heap.size v5 (K) (acc) [y] rfl (HO12.out.below HBO60.out) (fun _ _ => encR_len _) (fun _ _ => encR_one _) (some ⟨g60, 0, none⟩) 1 1 rfl rfl HEO60.out (by unfold maxLen; simp; omega) (by simp; omega) (Nat.le_trans HB12s HBO60.out.size) ?_; intro v7 u2 hO7 hg7 hob; have hbx := own_below2 (HO12.out.below HBO60.out) (Below.trans HB12.out (HBO60.out.mono HB12.out.size)) (Nat.le_refl _) (Nat.le_trans HB12s HBO60.out.size) hg7; have HOv7 := Lib.hid hO7; have HBv7 := Lib.hid hbx; have HQv7 := Lib.hid (show Behind wo u2 from hbx); clear hO7 hg7 hbx hob))
            go_roundg (M - (k + 1))
            case measure => omega
            case rel => exact ⟨k + 1, K + 1, v7, true, acc ++ [y], rfl, rfl, by go_num, by omega, by omega, by omega, (show Hid _ from (by rw [HK.out, List.length_append]; rfl)), HS.out, HOv7.out, HBv7.out⟩
          · have HQ := Lib.hid (show ∀ w, (binOp .eql 24 (.agg (u8s y.key).toArray) (.agg (u8s x.key).toArray)).run Tryd.prog w = .ok (.bool false) w from fun w => by have h := run_eql_dg w y.key x.key y.hk x.hk; rw [beq_eq_false_iff_ne.2 he] at h; exact h)
            cases d with
            | true =>
              have hs : (out.take (k + 1)).foldl (stepI x) ([], false) = (acc ++ [y], true) := by rw [HST.out]; unfold stepI; rw [if_neg he, if_neg (by simp)]
              have HS := Lib.hid hs
              clear he hs
              go_wp2_with fail
              refine wp_region_class (Behind wr) (by kernel_rfl) (by kernel_rfl) (Below.refl _ _).drew ?_
              iterate 11 (first
                | go_big_quiet_skip
                | ((with_reducible refine wpQuiet_loadAll (by with_unfolding_all rfl) 24 _ (by with_unfolding_all rfl) gO (offO + k * 65) (by with_unfolding_all rfl) (u8s y.key) _ (fun w h => HKY.out w h) HUD.out (by with_unfolding_all rfl) (HDG.out _ y.hk) ?_); simp only [Act.put, List.setIfInBounds_toArray, List.set_cons_zero, List.set_cons_succ])
                | ((with_reducible refine wpQuiet_loadAll (by with_unfolding_all rfl) 24 _ (by with_unfolding_all rfl) gL (offL + i * 65) (by with_unfolding_all rfl) (u8s x.key) _ (fun w h => HKX.out w h) HUD.out (by with_unfolding_all rfl) (HDG.out _ x.hk) ?_); simp only [Act.put, List.setIfInBounds_toArray, List.set_cons_zero, List.set_cons_succ])
                | ((with_reducible refine wpQuiet_bin (by with_unfolding_all rfl) .eql 24 _ _ _ (by with_unfolding_all rfl) (.agg (u8s y.key).toArray) (.agg (u8s x.key).toArray) (.bool _) (by with_unfolding_all rfl) (by with_unfolding_all rfl) (fun w => run_eqGuard_dg w _ _ _ _ _) HQ.out ?_); simp only [Act.put, List.setIfInBounds_toArray, List.set_cons_zero, List.set_cons_succ])
                | (go_big_quiet_step (exact fun _ => rfl)))
              with_reducible refine wpQuiet_nil ?_
              intro w10 hw10
              have HQ10 := Lib.hid (show Behind wr w10 from hw10)
              have HO10 := Lib.hid (HOA.out.below HQ10.out)
              have HB10 := Lib.hid (show Below wo.heap.size wo w10 from Behind.tr HQK.out HQ10.out)
              have HB10s := HB10.out.size
              have HX10 := Lib.hid (HRX.out _ (Behind.tr HBR.out HB10.out))
              have HY10 := Lib.hid (HRY.out _ HB10.out)
              clear hw10
              go_upto_region 12 with fail
              refine wp_region_mix [(0, true), (1, true), (2, true), (3, true), (4, true), (5, true), (6, true), (7, true), (8, true), (9, true), (10, true), (11, true), (12, true), (13, false), (14, true)] (Behind w10)
                (by kernel_rfl) (by kernel_rfl) (fun _ _ d _ _ h => by cases d <;> exact h) (by kernel_rfl) (by decide) (Below.refl _ _).drew ?_
              have hz0 : Behind w10 w10.drew := (Below.refl _ _).drew
              repeat (
                refine wpMix_q (by with_unfolding_all rfl) (by kernel_rfl) ?_
                first
                  | go_big_quiet_skip
                  | (go_big_quiet_step (exact fun _ => rfl))
                refine wpMix_qnil ?_)
              refine wpMix_skip (by with_unfolding_all rfl) (by with_unfolding_all rfl) hz0 ?_
              simp only [Act.put, List.setIfInBounds_toArray, List.set_cons_zero, List.set_cons_succ]
              repeat (
                refine wpMix_q (by with_unfolding_all rfl) (by kernel_rfl) ?_
                first
                  | go_big_quiet_skip
                  | (go_big_quiet_step (exact fun _ => rfl))
                refine wpMix_qnil ?_)
              refine wpMix_nil ?_
              have hz1 : Behind w10 w10.drew := hz0
              generalize w10.drew = z1 at hz1 ⊢
              have HQ12 := Lib.hid (show Behind w10 z1 from hz1)
              have HO12 := Lib.hid (HO10.out.below HQ12.out)
              have HB12 := Lib.hid (show Below wo.heap.size wo z1 from Behind.tr HB10.out HQ12.out)
              have HB12s := HB12.out.size
              have HX12 := Lib.hid (HRX.out _ (Behind.tr HBR.out HB12.out))
              have HY12 := Lib.hid (HRY.out _ HB12.out)
              clear hz1 hz0
              go_wp2_with (first
                | (with_reducible refine wpList_loadW (by with_unfolding_all rfl) 38 (.tmp 58) rfl gO (offO + k * 65) (by with_unfolding_all rfl) (encR y) _ (HY12.out) Tryd.underlying38 (by with_unfolding_all rfl) (HLR.out y) ?_)
                | ((with_reducible refine wpList_one rfl 22 38 65 y (.tmp 59) rfl (by with_unfolding_all rfl) Tryd.underlying22 info2Rec (by decide) (by decide) (encR_len y) ?_); intro g60 u1 hg hb hE; have HEO60 := Lib.hid hE; have HBO60 := Lib.hid hb; clear hg hb hE)
                | (at_builtin; refine wpList_append_enc (enc := encR) (k := 65) rfl rfl (.tmp 55) (.tmp 60) 22 38 72 rfl _ Tryd.underlying22 info3Rec rfl (by decide) wo.heap.size v5 (K) (acc) [y] rfl (HO12.out.below HBO60.out) (fun _ _ => encR_len _) (fun _ _ => encR_one _) (some ⟨g60, 0, none⟩) 1 1 rfl rfl HEO60.out (by unfold maxLen; simp; omega) (by simp; omega) (Nat.le_trans HB12s HBO60.out.size) ?_; intro v7 u2 hO7 hg7 hob; have hbx := own_below2 (HO12.out.below HBO60.out) (Below.trans HB12.out (HBO60.out.mono HB12.out.size)) (Nat.le_refl _) (Nat.le_trans HB12s HBO60.out.size) hg7; have HOv7 := Lib.hid hO7; have HBv7 := Lib.hid hbx; have HQv7 := Lib.hid (show Behind wo u2 from hbx); clear hO7 hg7 hbx hob))
              go_roundg (M - (k + 1))
              case measure => omega
              case rel => exact ⟨k + 1, K + 1, v7, true, acc ++ [y], rfl, rfl, by go_num, by omega, by omega, by omega, (show Hid _ from (by rw [HK.out, List.length_append]; rfl)), HS.out, HOv7.out, HBv7.out⟩
            | false =>
              cases hle : lessB x.key y.key with
              | true =>
                have hs : (out.take (k + 1)).foldl (stepI x) ([], false) = (acc ++ [x] ++ [y], true) := by rw [HST.out]; unfold stepI; rw [if_neg he, if_pos ⟨rfl, hle⟩]
                have HS := Lib.hid hs
                have HLE := Lib.hid hle
                have hlacc : K + 1 + 1 ≤ k + 1 + 1 := by
                  have h := stepI_len x (out.take (k + 1)) [] false
                  rw [HS.out] at h
                  simp at h
                  have := HK.out
                  omega
                clear he hs hle
                go_wp2_with fail
                refine wp_region_class (Behind wr) (by kernel_rfl) (by kernel_rfl) (Below.refl _ _).drew ?_
                iterate 11 (first
                  | go_big_quiet_skip
                  | ((with_reducible refine wpQuiet_loadAll (by with_unfolding_all rfl) 24 _ (by with_unfolding_all rfl) gO (offO + k * 65) (by with_unfolding_all rfl) (u8s y.key) _ (fun w h => HKY.out w h) HUD.out (by with_unfolding_all rfl) (HDG.out _ y.hk) ?_); simp only [Act.put, List.setIfInBounds_toArray, List.set_cons_zero, List.set_cons_succ])
                  | ((with_reducible refine wpQuiet_loadAll (by with_unfolding_all rfl) 24 _ (by with_unfolding_all rfl) gL (offL + i * 65) (by with_unfolding_all rfl) (u8s x.key) _ (fun w h => HKX.out w h) HUD.out (by with_unfolding_all rfl) (HDG.out _ x.hk) ?_); simp only [Act.put, List.setIfInBounds_toArray, List.set_cons_zero, List.set_cons_succ])
                  | ((with_reducible refine wpQuiet_bin (by with_unfolding_all rfl) .eql 24 _ _ _ (by with_unfolding_all rfl) (.agg (u8s y.key).toArray) (.agg (u8s x.key).toArray) (.bool _) (by with_unfolding_all rfl) (by with_unfolding_all rfl) (fun w => run_eqGuard_dg w _ _ _ _ _) HQ.out ?_); simp only [Act.put, List.setIfInBounds_toArray, List.set_cons_zero, List.set_cons_succ])
                  | (go_big_quiet_step (exact fun _ => rfl)))
                with_reducible refine wpQuiet_nil ?_
                intro w10 hw10
                have HQ10 := Lib.hid (show Behind wr w10 from hw10)
                have HO10 := Lib.hid (HOA.out.below HQ10.out)
                have HB10 := Lib.hid (show Below wo.heap.size wo w10 from Behind.tr HQK.out HQ10.out)
                have HB10s := HB10.out.size
                have HX10 := Lib.hid (HRX.out _ (Behind.tr HBR.out HB10.out))
                have HY10 := Lib.hid (HRY.out _ HB10.out)
                clear hw10
                go_upto_region 12 with fail
                refine wp_region_mix [(0, true), (1, true), (2, true), (3, true), (4, true), (5, true), (6, true), (7, true), (8, true), (9, true), (10, true), (11, true), (12, true), (13, false), (14, true)] (Behind w10)
                  (by kernel_rfl) (by kernel_rfl) (fun _ _ d _ _ h => by cases d <;> exact h) (by kernel_rfl) (by decide) (Below.refl _ _).drew ?_
                have hz0 : Behind w10 w10.drew := (Below.refl _ _).drew
                repeat (
                  refine wpMix_q (by with_unfolding_all rfl) (by kernel_rfl) ?_
                  first
                    | go_big_quiet_skip
                    | ((with_reducible refine wpQuiet_loadAll (by with_unfolding_all rfl) 24 _ (by with_unfolding_all rfl) gO (offO + k * 65) (by with_unfolding_all rfl) (u8s y.key) _ (fun w h => HKY.out w (Behind.tr HQ10.out h)) HUD.out (by with_unfolding_all rfl) (HDG.out _ y.hk) ?_); simp only [Act.put, List.setIfInBounds_toArray, List.set_cons_zero, List.set_cons_succ])
                    | ((with_reducible refine wpQuiet_loadAll (by with_unfolding_all rfl) 24 _ (by with_unfolding_all rfl) gL (offL + i * 65) (by with_unfolding_all rfl) (u8s x.key) _ (fun w h => HKX.out w (Behind.tr HQ10.out h)) HUD.out (by with_unfolding_all rfl) (HDG.out _ x.hk) ?_); simp only [Act.put, List.setIfInBounds_toArray, List.set_cons_zero, List.set_cons_succ])
                    | (go_big_quiet_step (exact fun _ => rfl))
                  refine wpMix_qnil ?_)
                refine mix_callv 62 [.agg (u8s x.key).toArray, .agg (u8s y.key).toArray] (.bool true) (by with_unfolding_all rfl) (by with_unfolding_all rfl) (by with_unfolding_all rfl) ((HLESS.out x y _).mono (fun e w' ⟨he, hb⟩ => ⟨by rw [he, HLE.out], Behind.trans' hz0 hb⟩)) ?_
                intro z1 hz1
                simp only [Act.put, List.setIfInBounds_toArray, List.set_cons_zero, List.set_cons_succ]
                repeat (
                  refine wpMix_q (by with_unfolding_all rfl) (by kernel_rfl) ?_
                  first
                    | go_big_quiet_skip
                    | (go_big_quiet_step (exact fun _ => rfl))
                  refine wpMix_qnil ?_)
                refine wpMix_nil ?_
                have HQ12 := Lib.hid (show Behind w10 z1 from hz1)
                have HO12 := Lib.hid (HO10.out.below HQ12.out)
                have HB12 := Lib.hid (show Below wo.heap.size wo z1 from Behind.tr HB10.out HQ12.out)
                have HB12s := HB12.out.size
                have HX12 := Lib.hid (HRX.out _ (Behind.tr HBR.out HB12.out))
                have HY12 := Lib.hid (HRY.out _ HB12.out)
                clear hz1 hz0
                go_wp2_with (first
                  | (with_reducible refine wpList_loadW (by with_unfolding_all rfl) 38 (.tmp 51) rfl gL (offL + i * 65) (by with_unfolding_all rfl) (encR x) _ (HX12.out) Tryd.underlying38 (by with_unfolding_all rfl) (HLR.out x) ?_)
                  | ((with_reducible refine wpList_one rfl 22 38 65 x (.tmp 52) rfl (by with_unfolding_all rfl) Tryd.underlying22 info2Rec (by decide) (by decide) (encR_len x) ?_); intro g53 u1 hg hb hE; have HEO53 := Lib.hid hE; have HBO53 := Lib.hid hb; clear hg hb hE)
                  | (at_builtin; refine wpList_append_enc (enc := encR) (k := 65) rfl rfl (.tmp 48) (.tmp 53) 22 38 72 rfl _ Tryd.underlying22 info3Rec rfl (by decide) wo.heap.size v5 (K) (acc) [x] rfl (HO12.out.below HBO53.out) (fun _ _ => encR_len _) (fun _ _ => encR_one _) (some ⟨g53, 0, none⟩) 1 1 rfl rfl HEO53.out (by unfold maxLen; simp; omega) (by simp; omega) (Nat.le_trans HB12s HBO53.out.size) ?_; intro v6 u2 hO7 hg7 hob; have hbx := own_below2 (HO12.out.below HBO53.out) (Below.trans HB12.out (HBO53.out.mono HB12.out.size)) (Nat.le_refl _) (Nat.le_trans HB12s HBO53.out.size) hg7; have HOv6 := Lib.hid hO7; have HBv6 := Lib.hid hbx; have HQv6 := Lib.hid (show Behind wo u2 from hbx); clear hO7 hg7 hbx hob)
                  | (with_reducible refine wpList_loadW (by with_unfolding_all rfl) 38 (.tmp 58) rfl gO (offO + k * 65) (by with_unfolding_all rfl) (encR y) _ (HRY.out _ HQv6.out) Tryd.underlying38 (by with_unfolding_all rfl) (HLR.out y) ?_)
                  | ((with_reducible refine wpList_one rfl 22 38 65 y (.tmp 59) rfl (by with_unfolding_all rfl) Tryd.underlying22 info2Rec (by decide) (by decide) (encR_len y) ?_); intro g60 u3 hg hb hE; have HEO60 := Lib.hid hE; have HBO60 := Lib.hid hb; clear hg hb hE)
                  | (at_builtin; refine wpList_append_enc (enc := encR) (k := 65) rfl rfl (.tmp 55) (.tmp 60) 22 38 72 rfl _ Tryd.underlying22 info3Rec rfl (by decide) wo.heap.size v6 (K + 1) (acc ++ [x]) [y] rfl (HOv6.out.below HBO60.out) (fun _ _ => encR_len _) (fun _ _ => encR_one _) (some ⟨g60, 0, none⟩) 1 1 rfl rfl HEO60.out (by unfold maxLen; simp; omega) (by simp; omega) (Nat.le_trans HBv6.out.size HBO60.out.size) ?_; intro v7 u4 hO7 hg7 hob; have hbx := own_below2 (HOv6.out.below HBO60.out) (Below.trans HBv6.out (HBO60.out.mono HBv6.out.size)) (Nat.le_refl _) (Nat.le_trans HBv6.out.size HBO60.out.size) hg7; have HOv7 := Lib.hid hO7; have HBv7 := Lib.hid hbx; have HQv7 := Lib.hid (show Behind wo u4 from hbx); clear hO7 hg7 hbx hob))
                go_roundg (M - (k + 1))
                case measure => omega
                case rel => exact ⟨k + 1, K + 1 + 1, v7, true, acc ++ [x] ++ [y], rfl, rfl, by go_num, by omega, by omega, hlacc, (show Hid _ from (by rw [HK.out, List.length_append, List.length_append]; rfl)), HS.out, HOv7.out, HBv7.out⟩
              | false =>
                have hs : (out.take (k + 1)).foldl (stepI x) ([], false) = (acc ++ [y], false) := by rw [HST.out]; unfold stepI; rw [if_neg he, if_neg (by rw [hle]; simp)]
                have HS := Lib.hid hs
                have HLE := Lib.hid hle
                clear he hs hle
                go_wp2_with fail
                refine wp_region_class (Behind wr) (by kernel_rfl) (by kernel_rfl) (Below.refl _ _).drew ?_
                iterate 11 (first
                  | go_big_quiet_skip
                  | ((with_reducible refine wpQuiet_loadAll (by with_unfolding_all rfl) 24 _ (by with_unfolding_all rfl) gO (offO + k * 65) (by with_unfolding_all rfl) (u8s y.key) _ (fun w h => HKY.out w h) HUD.out (by with_unfolding_all rfl) (HDG.out _ y.hk) ?_); simp only [Act.put, List.setIfInBounds_toArray, List.set_cons_zero, List.set_cons_succ])
                  | ((with_reducible refine wpQuiet_loadAll (by with_unfolding_all rfl) 24 _ (by with_unfolding_all rfl) gL (offL + i * 65) (by with_unfolding_all rfl) (u8s x.key) _ (fun w h => HKX.out w h) HUD.out (by with_unfolding_all rfl) (HDG.out _ x.hk) ?_); simp only [Act.put, List.setIfInBounds_toArray, List.set_cons_zero, List.set_cons_succ])
                  | ((with_reducible refine wpQuiet_bin (by with_unfolding_all rfl) .eql 24 _ _ _ (by with_unfolding_all rfl) (.agg (u8s y.key).toArray) (.agg (u8s x.key).toArray) (.bool _) (by with_unfolding_all rfl) (by with_unfolding_all rfl) (fun w => run_eqGuard_dg w _ _ _ _ _) HQ.out ?_); simp only [Act.put, List.setIfInBounds_toArray, List.set_cons_zero, List.set_cons_succ])
                  | (go_big_quiet_step (exact fun _ => rfl)))
                with_reducible refine wpQuiet_nil ?_
                intro w10 hw10
                have HQ10 := Lib.hid (show Behind wr w10 from hw10)
                have HO10 := Lib.hid (HOA.out.below HQ10.out)
                have HB10 := Lib.hid (show Below wo.heap.size wo w10 from Behind.tr HQK.out HQ10.out)
                have HB10s := HB10.out.size
                have HX10 := Lib.hid (HRX.out _ (Behind.tr HBR.out HB10.out))
                have HY10 := Lib.hid (HRY.out _ HB10.out)
                clear hw10
                go_upto_region 12 with fail
                refine wp_region_mix [(0, true), (1, true), (2, true), (3, true), (4, true), (5, true), (6, true), (7, true), (8, true), (9, true), (10, true), (11, true), (12, true), (13, false), (14, true)] (Behind w10)
                  (by kernel_rfl) (by kernel_rfl) (fun _ _ d _ _ h => by cases d <;> exact h) (by kernel_rfl) (by decide) (Below.refl _ _).drew ?_
                have hz0 : Behind w10 w10.drew := (Below.refl _ _).drew
                repeat (
                  refine wpMix_q (by with_unfolding_all rfl) (by kernel_rfl) ?_
                  first
                    | go_big_quiet_skip
                    | ((with_reducible refine wpQuiet_loadAll (by with_unfolding_all rfl) 24 _ (by with_unfolding_all rfl) gO (offO + k * 65) (by with_unfolding_all rfl) (u8s y.key) _ (fun w h => HKY.out w (Behind.tr HQ10.out h)) HUD.out (by with_unfolding_all rfl) (HDG.out _ y.hk) ?_); simp only [Act.put, List.setIfInBounds_toArray, List.set_cons_zero, List.set_cons_succ])
                    | ((with_reducible refine wpQuiet_loadAll (by with_unfolding_all rfl) 24 _ (by with_unfolding_all rfl) gL (offL + i * 65) (by with_unfolding_all rfl) (u8s x.key) _ (fun w h => HKX.out w (Behind.tr HQ10.out h)) HUD.out (by with_unfolding_all rfl) (HDG.out _ x.hk) ?_); simp only [Act.put, List.setIfInBounds_toArray, List.set_cons_zero, List.set_cons_succ])
                    | (go_big_quiet_step (exact fun _ => rfl))
                  refine wpMix_qnil ?_)
                refine mix_callv 62 [.agg (u8s x.key).toArray, .agg (u8s y.key).toArray] (.bool false) (by with_unfolding_all rfl) (by with_unfolding_all rfl) (by with_unfolding_all rfl) ((HLESS.out x y _).mono (fun e w' ⟨he, hb⟩ => ⟨by rw [he, HLE.out], Behind.trans' hz0 hb⟩)) ?_
                intro z1 hz1
                simp only [Act.put, List.setIfInBounds_toArray, List.set_cons_zero, List.set_cons_succ]
                repeat (
                  refine wpMix_q (by with_unfolding_all rfl) (by kernel_rfl) ?_
                  first
                    | go_big_quiet_skip
                    | (go_big_quiet_step (exact fun _ => rfl))
                  refine wpMix_qnil ?_)
                refine wpMix_nil ?_
                have HQ12 := Lib.hid (show Behind w10 z1 from hz1)
                have HO12 := Lib.hid (HO10.out.below HQ12.out)
                have HB12 := Lib.hid (show Below wo.heap.size wo z1 from Behind.tr HB10.out HQ12.out)
                have HB12s := HB12.out.size
                have HX12 := Lib.hid (HRX.out _ (Behind.tr HBR.out HB12.out))
                have HY12 := Lib.hid (HRY.out _ HB12.out)
                clear hz1 hz0
                go_wp2_with (first
                  | (with_reducible refine wpList_loadW (by with_unfolding_all rfl) 38 (.tmp 58) rfl gO (offO + k * 65) (by with_unfolding_all rfl) (encR y) _ (HY12.out) Tryd.underlying38 (by with_unfolding_all rfl) (HLR.out y) ?_)
                  | ((with_reducible refine wpList_one rfl 22 38 65 y (.tmp 59) rfl (by with_unfolding_all rfl) Tryd.underlying22 info2Rec (by decide) (by decide) (encR_len y) ?_); intro g60 u1 hg hb hE; have HEO60 := Lib.hid hE; have HBO60 := Lib.hid hb; clear hg hb hE)
                  | (at_builtin; refine wpList_append_enc (enc := encR) (k := 65) rfl rfl (.tmp 55) (.tmp 60) 22 38 72 rfl _ Tryd.underlying22 info3Rec rfl (by decide) wo.heap.size v5 (K) (acc) [y] rfl (HO12.out.below HBO60.out) (fun _ _ => encR_len _) (fun _ _ => encR_one _) (some ⟨g60, 0, none⟩) 1 1 rfl rfl HEO60.out (by unfold maxLen; simp; omega) (by simp; omega) (Nat.le_trans HB12s HBO60.out.size) ?_; intro v7 u2 hO7 hg7 hob; have hbx := own_below2 (HO12.out.below HBO60.out) (Below.trans HB12.out (HBO60.out.mono HB12.out.size)) (Nat.le_refl _) (Nat.le_trans HB12s HBO60.out.size) hg7; have HOv7 := Lib.hid hO7; have HBv7 := Lib.hid hbx; have HQv7 := Lib.hid (show Behind wo u2 from hbx); clear hO7 hg7 hbx hob))
                go_roundg (M - (k + 1))
                case measure => omega
                case rel => exact ⟨k + 1, K + 1, v7, false, acc ++ [y], rfl, rfl, by go_num, by omega, by omega, by omega, (show Hid _ from (by rw [HK.out, List.length_append]; rfl)), HS.out, HOv7.out, HBv7.out⟩
        · have hkM : k = M := by omega
          have hlkz : ¬ (k : Int) < (M : Int) := by omega
          have hfull : out.foldl (stepI x) ([], false) = (acc, d) := by
            rw [← HF.out, hkM, List.take_of_length_le (by have := HML.out; omega)]
          have hnew : insF x out = sortR (l.take (i + 1)) := by
            rw [HOUT.out, insF_sortR, List.take_succ_eq_append_getElem hil, ← HX.out]
          unfold insF at hnew
          rw [hfull] at hnew
          cases d with
          | true =>
            rw [if_pos rfl] at hnew
            have HNW := Lib.hid (show acc = sortR (l.take (i + 1)) from hnew)
            clear hnew hfull hkM
            go_wp2_with fail
            go_roundg (n - (i + 1))
            case measure => omega
            case rel => exact ⟨i + 1, K, v5, rfl, by go_num, by omega, Nat.le_refl _, by have h := sortR_len (l.take (i + 1)); rw [← HNW.out, ← HK.out, List.length_take] at h; omega, (show Hid _ from (by rw [← HNW.out]; exact HK.out)), (show Hid _ from (by rw [← HNW.out]; exact HOA.out.rebase HBW.out.size)), HBW.out.trans (HBK.out.mono HBW.out.size)⟩
          | false =>
            rw [if_neg (by simp)] at hnew
            have HNW := Lib.hid (show acc ++ [x] = sortR (l.take (i + 1)) from hnew)
            clear hnew hfull hkM
            go_wp2_with (first
              | (with_reducible refine wpList_loadW (by with_unfolding_all rfl) 38 (.tmp 67) rfl gL (offL + i * 65) (by with_unfolding_all rfl) (encR x) _ (HRX.out _ (Behind.tr HBR.out HQK.out)) Tryd.underlying38 (by with_unfolding_all rfl) (HLR.out x) ?_)
              | ((with_reducible refine wpList_one rfl 22 38 65 x (.tmp 68) rfl (by with_unfolding_all rfl) Tryd.underlying22 info2Rec (by decide) (by decide) (encR_len x) ?_); intro g69 u1 hg hb hE; have HEO69 := Lib.hid hE; have HBO69 := Lib.hid hb; clear hg hb hE)
              | (at_builtin; refine wpList_append_enc (enc := encR) (k := 65) rfl rfl (.tmp 64) (.tmp 69) 22 38 72 rfl _ Tryd.underlying22 info3Rec rfl (by decide) wo.heap.size v5 (K) (acc) [x] rfl (HOA.out.below HBO69.out) (fun _ _ => encR_len _) (fun _ _ => encR_one _) (some ⟨g69, 0, none⟩) 1 1 rfl rfl HEO69.out (by unfold maxLen; simp; omega) (by simp; omega) (Nat.le_trans HBKs HBO69.out.size) ?_; intro v7 u2 hO7 hg7 hob; have hbx := own_below2 (HOA.out.below HBO69.out) (Below.trans HBK.out (HBO69.out.mono HBK.out.size)) (Nat.le_refl _) (Nat.le_trans HBKs HBO69.out.size) hg7; have HOv7 := Lib.hid hO7; have HBv7 := Lib.hid hbx; have HQv7 := Lib.hid (show Behind wo u2 from hbx); clear hO7 hg7 hbx hob))
            go_roundg (n - (i + 1))
            case measure => omega
            case rel => exact ⟨i + 1, K + 1, v7, rfl, by go_num, by omega, Nat.le_refl _, by have h := sortR_len (l.take (i + 1)); rw [← HNW.out, List.length_append, ← HK.out, List.length_take] at h; simp at h; omega, (show Hid _ from (by rw [← HNW.out, HK.out, List.length_append]; rfl)), (show Hid _ from (by rw [← HNW.out]; exact HOv7.out.rebase HBW.out.size)), HBW.out.trans (HBv7.out.mono HBW.out.size)⟩
    · have hin : i = n := by omega
      have hltz : ¬ (i : Int) < (n : Int) := by omega
      have htk : l.take i = l := List.take_of_length_le (by have := HLN.out; omega)
      have hO := HO.out
      have hM := HM.out
      rw [htk] at hO hM
      have hMN : M = N := by rw [hM, HN.out]
      rw [hMN] at hO
      have HOF := Lib.hid hO
      clear hO hM htk hin hMN
      go_wp2_with fail
      go_ret
      exact ⟨v, rfl, HOF.out, HBW.out⟩
theorem refsort_any (A : Option Addr) (c : Nat) (l : List Rec) (w : World) (n N : Nat) (hln : n = l.length) (hN : N = (sortR l).length) (hE : EncIn encR 65 w A l) (hn : n < 1099511627776) :
    Calls Tryd.prog 28 #[.slice A n c] w fun e w' => ∃ A' c', e = .returned (.slice A' N c') ∧ N ≤ c' ∧ EncIn encR 65 w' A' (sortR l) ∧ Below w.heap.size w w' := by
  refine (refsort_own A c l w n N hln hN hE hn).mono ?_
  rintro e w' ⟨v, rfl, hO, hb⟩
  obtain ⟨A', c', rfl, hc, hE'⟩ := hO.rows hN (fun x _ => encR_len x)
  exact ⟨A', c', rfl, hc, hE', hb⟩
end Go.Proofs.YtefbllhpibfojaaDoor
