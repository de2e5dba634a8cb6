/- GleanGives: the walk. -/
import Derived.Test.YtefbllhpibfojaaDoorGleHM
namespace Go.Proofs.YtefbllhpibfojaaDoor
open Go.Proofs Stab Go.Shelf Go.RowKit Go.Lib Go.Sort

theorem Behind.trB {a b c : World} (h : Behind a b) (k : Behind b c) : Behind a c := Below.trans h (Below.mono k (Below.size h))
theorem gives_len (a : List Rng) (t l : List Rec) : (fillR a t l).length ≤ 16 := by unfold fillR; rw [List.length_take]; omega
theorem gives_mem {a : List Rng} {t l : List Rec} {x : Rec} (h : x ∈ fillR a t l) : x ∈ l ∧ (∃ r ∈ a, inB r x.key = true) ∧ x ∉ t := by
  unfold fillR at h
  have h1 := List.mem_filter.1 (List.mem_of_mem_take h)
  have h2 := h1.2
  unfold outF at h2
  rw [Bool.not_eq_true', Bool.or_eq_false_iff] at h2
  refine ⟨sortR_sub h1.1, ?_, fun hx => ?_⟩
  · have h3 := h2.2
    rw [Bool.not_eq_false', List.any_eq_true] at h3
    obtain ⟨r, hr, hi⟩ := h3
    unfold goodsF at hr
    exact ⟨r, (List.mem_filter.1 (List.mem_of_mem_take hr)).1, hi⟩
  · have h3 := h2.1
    rw [List.any_eq_false] at h3
    exact h3 x hx (by simp)
theorem gives_nil (t l : List Rec) : fillR [] t l = [] := by
  cases h : fillR [] t l with
  | nil => rfl
  | cons x r =>
    obtain ⟨_, ⟨r', hr', _⟩, _⟩ := gives_mem (a := []) (t := t) (l := l) (x := x) (by rw [h]; exact List.mem_cons_self)
    cases hr'
theorem gives_own (a : List Rng) (l : List Rec) : fillR a l l = [] := by
  cases h : fillR a l l with
  | nil => rfl
  | cons x r =>
    obtain ⟨h1, _, h2⟩ := gives_mem (a := a) (t := l) (l := l) (x := x) (by rw [h]; exact List.mem_cons_self)
    exact absurd h1 h2
set_option maxRecDepth 100000 in
set_option maxHeartbeats 8000000 in
theorem gives_any (A0 : Option Addr) (c0 : Nat) (a : List Rng) (A1 : Option Addr) (c1 : Nat) (t : List Rec) (A2 : Option Addr) (c2 : Nat) (l : List Rec) (w : World)
    (hE0 : EncIn encG 35 w A0 a) (_ : a.length ≤ c0) (hm0 : c0 ≤ maxLen) (_ : A0 = none → c0 = 0) (hE1 : EncIn encR 65 w A1 t) (_ : t.length ≤ c1) (hm1 : c1 ≤ maxLen) (_ : A1 = none → c1 = 0) (hE2 : EncIn encR 65 w A2 l) (_ : l.length ≤ c2) (hm2 : c2 ≤ maxLen) (_ : A2 = none → c2 = 0) (hwd : Tab w 0 (u32s Sha.words)) :
    Calls Tryd.prog 12 #[.slice A0 a.length c0, .slice A1 t.length c1, .slice A2 l.length c2] w fun e w' => e = .returned (.bool true) ∧ Below w.heap.size w w' := by
  have hn0 : a.length ≤ 9223372036854775807 := by unfold maxLen at hm0; omega
  have hn1 : t.length ≤ 9223372036854775807 := by unfold maxLen at hm1; omega
  have hn2 : l.length ≤ 9223372036854775807 := by unfold maxLen at hm2; omega
  have HE0 := Lib.hid hE0
  have HE1 := Lib.hid hE1
  have HE2 := Lib.hid hE2
  have HLR := Lib.hid (show ∀ x, (Tryd.prog.info? 38).map (·.size) = some (encR x).length from fun x => by rw [encR_len]; exact infoRec)
  have HLG := Lib.hid (show ∀ x, (Tryd.prog.info? 26).map (·.size) = some (encG x).length from fun x => by rw [encG_len]; exact infoRng)
  have HUD := Lib.hid Tryd.underlying24
  have HDG := Lib.hid (show ∀ l : List UInt8, l.length = 32 → (Tryd.prog.info? 24).map (·.size) = some (u8s l).length from fun l hl => by rw [u8s_length, hl]; exact infoDg)
  have HAW := Lib.hid (awake16_any w hwd)
  clear hE0 hE1 hE2 hm0 hm1 hm2 hwd
  obtain ⟨na, hna⟩ : ∃ n, n = a.length := ⟨_, rfl⟩
  obtain ⟨nt, hnt⟩ : ∃ n, n = t.length := ⟨_, rfl⟩
  obtain ⟨n, hn⟩ : ∃ n, n = l.length := ⟨_, rfl⟩
  rw [← hna] at hn0 ⊢
  rw [← hnt] at hn1 ⊢
  rw [← hn] at hn2 ⊢
  have HNA := Lib.hid hna
  have HNT := Lib.hid hnt
  have HN := Lib.hid hn
  clear hna hnt hn
  go_enter Tryd.func12, Tryd.ntmps12
  go_upto_region 3 with (first
    | (go_at_call 31; (with_reducible refine Calls.mono HAW.out ?_); rintro e w1 ⟨rfl, hb⟩; have HB1 := Lib.hid hb; clear hb))
  by_cases h0 : 60 < na
  · have hz : (60 : Int) < (na : Int) := by omega
    go_wp2_with fail
    go_ret
    exact ⟨rfl, HB1.out⟩
  have hz0 : ¬ (60 : Int) < (na : Int) := by omega
  by_cases h1 : 60 < nt
  · have hz : (60 : Int) < (nt : Int) := by omega
    go_wp2_with fail
    go_ret
    exact ⟨rfl, HB1.out⟩
  have hz1 : ¬ (60 : Int) < (nt : Int) := by omega
  by_cases h2 : 60 < n
  · have hz : (60 : Int) < (n : Int) := by omega
    go_wp2_with fail
    go_ret
    exact ⟨rfl, HB1.out⟩
  have hz2 : ¬ (60 : Int) < (n : Int) := by omega
  obtain ⟨L, hL⟩ : ∃ L, L = fillR a t l := ⟨_, rfl⟩
  obtain ⟨N, hNL⟩ : ∃ N, N = L.length := ⟨_, rfl⟩
  have hN16 : N ≤ 16 := by rw [hNL, hL]; exact gives_len a t l
  have hN16z : ¬ (16 : Int) < (N : Int) := by omega
  have HL := Lib.hid hL
  have HNL := Lib.hid hNL
  have HF1 := Lib.hid (show ∀ W, Below w.heap.size w W → Calls Tryd.prog 36 #[.slice A0 na c0, .slice A1 nt c1, .slice A2 n c2] W fun e w' => ∃ A' c', e = .returned (.slice A' N c') ∧ N ≤ c' ∧ EncIn encR 65 w' A' L ∧ Below W.heap.size W w' from fun W hW => by rw [hL] at hNL ⊢; exact fill_any A0 c0 na a A1 c1 nt t A2 c2 n l W HNA.out (HE0.out.up hW) (by omega) HNT.out (HE1.out.up hW) (by omega) HN.out (HE2.out.up hW) (by omega) N hNL)
  have HF2 := Lib.hid (show ∀ W, Below w.heap.size w W → Calls Tryd.prog 36 #[.slice none 0 0, .slice A1 nt c1, .slice A2 n c2] W fun e w' => ∃ A' c', e = .returned (.slice A' 0 c') ∧ 0 ≤ c' ∧ EncIn encR 65 w' A' (fillR [] t l) ∧ Below W.heap.size W w' from fun W hW => fill_any none 0 0 [] A1 c1 nt t A2 c2 n l W rfl EncIn.nil (by decide) HNT.out (HE1.out.up hW) (by omega) HN.out (HE2.out.up hW) (by omega) 0 (by rw [gives_nil]; rfl))
  have HF3 := Lib.hid (show ∀ W, Below w.heap.size w W → Calls Tryd.prog 36 #[.slice A0 na c0, .slice A2 n c2, .slice A2 n c2] W fun e w' => ∃ A' c', e = .returned (.slice A' 0 c') ∧ 0 ≤ c' ∧ EncIn encR 65 w' A' (fillR a l l) ∧ Below W.heap.size W w' from fun W hW => fill_any A0 c0 na a A2 c2 n l A2 c2 n l W HNA.out (HE0.out.up hW) (by omega) HN.out (HE2.out.up hW) (by omega) HN.out (HE2.out.up hW) (by omega) 0 (by rw [gives_own]; rfl))
  clear hL hNL
  go_upto_region 8 with (first
    | (go_at_call 36; (with_reducible refine Calls.mono (HF1.out _ HB1.out) ?_); rintro e w3 ⟨A7, c7, rfl, _, hE, hb⟩; have HE7 := Lib.hid hE; have HB3 := Lib.hid (HB1.out.trans (hb.mono HB1.out.size)); clear hE hb)
    | (go_at_call 36; (with_reducible refine Calls.mono (HF2.out _ HB3.out) ?_); rintro e w4 ⟨A8, c8, rfl, _, _, hb⟩; have HB4 := Lib.hid (HB3.out.trans (hb.mono HB3.out.size)); have HB34 := Lib.hid (show Behind w3 w4 from hb); clear hb)
    | (go_at_call 36; (with_reducible refine Calls.mono (HF3.out _ HB4.out) ?_); rintro e w5 ⟨A9, c9, rfl, _, _, hb⟩; have HB5 := Lib.hid (HB4.out.trans (hb.mono HB4.out.size)); have HB35 := Lib.hid (show Behind w3 w5 from Behind.trans' HB34.out hb); clear hb))
  have HQ5 := Lib.hid (show Behind w w5 from HB5.out)
  have HS0 := Lib.hid (show ∀ W, Behind w5 W → EncIn encG 35 W A0 a from fun W h => HE0.out.up (Behind.trB HQ5.out h))
  have HS1 := Lib.hid (show ∀ W, Behind w5 W → EncIn encR 65 W A1 t from fun W h => HE1.out.up (Behind.trB HQ5.out h))
  have HS2 := Lib.hid (show ∀ W, Behind w5 W → EncIn encR 65 W A2 l from fun W h => HE2.out.up (Behind.trB HQ5.out h))
  have HS7 := Lib.hid (show ∀ W, Behind w5 W → EncIn encR 65 W A7 L from fun W h => HE7.out.up (Behind.trB HB35.out h))
  go_wp2_with fail
  go_loopg [8] N (fun gg s8 wr => ∃ i : Nat, s8 = .int .i64 i ∧ i ≤ N ∧ N - i ≤ gg ∧ Hid (Behind w5 wr))
  case atStart => exact ⟨0, rfl, Nat.zero_le _, by omega, Behind.refl _⟩
  case round =>
    obtain ⟨i, rfl, hi, hgg, HQ⟩ := hrel
    generalize wr = wo at *
    by_cases hlt : i < N
    · have hltz : (i : Int) < (N : Int) := by omega
      have i0 : (0 : Int) ≤ (i : Int) := by omega
      have hil : i < L.length := by have := HNL.out; omega
      obtain ⟨gX, oX, hAX, hgX, hrX⟩ := (HS7.out w5 (Behind.refl _)).at hil
      obtain ⟨x, hx⟩ : ∃ x, x = L[i] := ⟨_, rfl⟩
      have hmem : x ∈ fillR a t l := by rw [← HL.out, hx]; exact List.getElem_mem hil
      have hgv := gives_mem hmem
      rw [← hx] at hrX
      have HRX := Lib.hid (show ∀ W, Behind w5 W → W.rangeAt gX (oX + i * 65) (encR x) from fun W h => range_below' hrX h hgX)
      have HGV := Lib.hid hgv
      clear hrX hx hmem hgv hgX
      subst hAX
      go_upto_region 13 with fail
      go_loopg [9, 10] n (fun gg s9 s10 wr => ∃ (k : Nat) (b : Bool), s10 = .int .i64 k ∧ s9 = .bool b ∧ k ≤ n ∧ n - k ≤ gg ∧ Hid (b = (l.take k).any fun y => decide (y = x)) ∧ Hid (Behind w5 wr))
      case atStart => exact ⟨0, false, rfl, rfl, Nat.zero_le _, by omega, (show Hid _ from (rfl : false = (l.take 0).any fun y => decide (y = x))), HQ.out⟩
      case round =>
        obtain ⟨k, b, rfl, rfl, hk, hkk, HA, HQ1⟩ := hrel
        have HX := Lib.hid (show ∀ W, Behind wr W → W.rangeAt gX (oX + i * 65) (encR x) from fun W h => HRX.out W (Behind.trB HQ1.out h))
        by_cases hlk : k < n
        · have hlkz : (k : Int) < (n : Int) := by omega
          have k0 : (0 : Int) ≤ (k : Int) := by omega
          have hkl : k < l.length := by have := HN.out; omega
          obtain ⟨gY, oY, hAY, hgY, hrY⟩ := (HS2.out wr HQ1.out).at hkl
          obtain ⟨y, hy⟩ : ∃ y, y = l[k] := ⟨_, rfl⟩
          have hst : (l.take (k + 1)).any (fun y => decide (y = x)) = (b || decide (y = x)) := by
            rw [List.take_succ_eq_append_getElem hkl, List.any_append, ← HA.out, ← hy]
            simp
          rw [← hy] at hrY
          have HRY := Lib.hid (show ∀ W, Behind wr W → W.rangeAt gY (oY + k * 65) (encR y) from fun W h => range_below' hrY h hgY)
          have HST := Lib.hid hst
          clear hrY hy hst hgY
          cases b with
          | true =>
            go_wp2_with fail
            refine wp_region_class (Behind wr) (by kernel_rfl) (by kernel_rfl) (Below.refl _ _).drew ?_
            iterate 13 (first
              | go_big_quiet_skip
              | (go_big_quiet_step (exact fun _ => rfl)))
            with_reducible refine wpQuiet_nil ?_
            intro w3 hw3
            have HQ3 := Lib.hid (show Behind wr w3 from hw3)
            clear hw3
            go_wp2_with fail
            go_roundg (n - (k + 1))
            case measure => omega
            case rel => exact ⟨k + 1, true, by go_num, rfl, by omega, Nat.le_refl _, (show Hid _ from (by rw [HST.out]; rfl)), Behind.trB HQ1.out HQ3.out⟩
          | false =>
            obtain ⟨eq, heq⟩ : ∃ e, e = decide (y = x) := ⟨_, rfl⟩
            have HQY := Lib.hid (show ∀ w, (binOp .eql 38 (.agg (encR y).toArray) (.agg (encR x).toArray)).run Tryd.prog w = .ok (.bool eq) w from fun w => by rw [heq]; exact run_eql_rec w y x)
            have HEQ := Lib.hid heq
            clear heq
            subst hAY
            go_wp2_with fail
            refine wp_region_class (Behind wr) (by kernel_rfl) (by kernel_rfl) (Below.refl _ _).drew ?_
            iterate 13 (first
              | go_big_quiet_skip
              | ((with_reducible refine wpQuiet_loadAll (by with_unfolding_all rfl) 38 _ (by with_unfolding_all rfl) gX (oX + i * 65) (by with_unfolding_all rfl) (encR x) _ (fun w h => HX.out w h) Tryd.underlying38 (by with_unfolding_all rfl) (HLR.out x) ?_); simp only [Act.put, List.setIfInBounds_toArray, List.set_cons_zero, List.set_cons_succ])
              | ((with_reducible refine wpQuiet_loadAll (by with_unfolding_all rfl) 38 _ (by with_unfolding_all rfl) gY (oY + k * 65) (by with_unfolding_all rfl) (encR y) _ (fun w h => HRY.out w h) Tryd.underlying38 (by with_unfolding_all rfl) (HLR.out y) ?_); simp only [Act.put, List.setIfInBounds_toArray, List.set_cons_zero, List.set_cons_succ])
              | ((with_reducible refine wpQuiet_bin (by with_unfolding_all rfl) .eql 38 _ _ _ (by with_unfolding_all rfl) (.agg (encR y).toArray) (.agg (encR x).toArray) (.bool eq) (by with_unfolding_all rfl) (by with_unfolding_all rfl) (fun w => run_eqGuard_rec w _ _ _ _ _) HQY.out ?_); simp only [Act.put, List.setIfInBounds_toArray, List.set_cons_zero, List.set_cons_succ])
              | (go_big_quiet_step (exact fun _ => rfl)))
            with_reducible refine wpQuiet_nil ?_
            intro w3 hw3
            have HQ3 := Lib.hid (show Behind wr w3 from hw3)
            clear hw3
            go_wp2_with fail
            go_roundg (n - (k + 1))
            case measure => omega
            case rel => exact ⟨k + 1, eq, by go_num, rfl, by omega, Nat.le_refl _, (show Hid _ from (by rw [HST.out, HEQ.out]; rfl)), Behind.trB HQ1.out HQ3.out⟩
        · have hkn : k = n := by omega
          have hlkz : ¬ (k : Int) < (n : Int) := by omega
          have hb : b = true := by
            rw [HA.out, List.take_of_length_le (by have := HN.out; omega), List.any_eq_true]
            exact ⟨x, HGV.out.1, by simp⟩
          subst hb
          clear hkn HX hkk
          generalize wr = w1 at *
          go_upto_region 18 with fail
          go_loopg [11, 12] na (fun gg s9 s10 wr => ∃ (k : Nat) (b : Bool), s10 = .int .i64 k ∧ s9 = .bool b ∧ k ≤ na ∧ na - k ≤ gg ∧ Hid (b = (a.take k).any fun r => inB r x.key) ∧ Hid (Behind w5 wr))
          case atStart => exact ⟨0, false, rfl, rfl, Nat.zero_le _, by omega, (show Hid _ from (rfl : false = (a.take 0).any fun r => inB r x.key)), HQ1.out⟩
          case round =>
            obtain ⟨k2, b, rfl, rfl, hk2, hkk2, HA2, HQ2⟩ := hrel
            have HX := Lib.hid (show ∀ W, Behind wr W → W.rangeAt gX (oX + i * 65) (u8s x.key) from fun W h => rec_key (HRX.out W (Behind.trB HQ2.out h)))
            by_cases hlk2 : k2 < na
            · have hlkz2 : (k2 : Int) < (na : Int) := by omega
              have k20 : (0 : Int) ≤ (k2 : Int) := by omega
              have hkl2 : k2 < a.length := by have := HNA.out; omega
              obtain ⟨gY, oY, hAY, hgY, hrY⟩ := (HS0.out wr HQ2.out).at hkl2
              obtain ⟨y, hy⟩ : ∃ y, y = a[k2] := ⟨_, rfl⟩
              have hst : (a.take (k2 + 1)).any (fun r => inB r x.key) = (b || inB y x.key) := by
                rw [List.take_succ_eq_append_getElem hkl2, List.any_append, ← HA2.out, ← hy]
                simp
              rw [← hy] at hrY
              have HRY := Lib.hid (show ∀ W, Behind wr W → W.rangeAt gY (oY + k2 * 35) (encG y) from fun W h => range_below' hrY h hgY)
              have HST := Lib.hid hst
              clear hrY hy hst hgY
              cases b with
              | true =>
                go_wp2_with fail
                refine wp_region_mix [(0, true), (1, true), (2, true), (3, true), (4, true), (5, true), (6, true), (7, true), (8, true), (9, true), (10, true), (11, false), (12, true), (13, true)] (Behind wr)
                  (by kernel_rfl) (by kernel_rfl) (fun _ _ d _ _ h => by cases d <;> exact h) (by kernel_rfl) (by decide) (Below.refl _ _).drew ?_
                have hz0 : Behind wr wr.drew := (Below.refl _ _).drew
                repeat (
                  refine wpMix_q (by with_unfolding_all rfl) (by kernel_rfl) ?_
                  first
                    | go_big_quiet_skip
                    | (go_big_quiet_step (exact fun _ => rfl))
                  refine wpMix_qnil ?_)
                refine wpMix_skip (by with_unfolding_all rfl) (by with_unfolding_all rfl) hz0 ?_
                simp only [Act.put, List.setIfInBounds_toArray, List.set_cons_zero, List.set_cons_succ]
                repeat (
                  refine wpMix_q (by with_unfolding_all rfl) (by kernel_rfl) ?_
                  first
                    | go_big_quiet_skip
                    | (go_big_quiet_step (exact fun _ => rfl))
                  refine wpMix_qnil ?_)
                refine wpMix_nil ?_
                have hz1 : Behind wr wr.drew := hz0
                generalize wr.drew = z1 at hz1 ⊢
                have HQ3 := Lib.hid (show Behind wr z1 from hz1)
                clear hz0 hz1
                go_wp2_with fail
                go_roundg (na - (k2 + 1))
                case measure => omega
                case rel => exact ⟨k2 + 1, true, by go_num, rfl, by omega, Nat.le_refl _, (show Hid _ from (by rw [HST.out]; rfl)), Behind.trB HQ2.out HQ3.out⟩
              | false =>
                obtain ⟨eq, heq⟩ : ∃ e, e = inB y x.key := ⟨_, rfl⟩
                have HIN := Lib.hid (show ∀ W, Calls Tryd.prog 22 #[.agg (encG y).toArray, .agg (u8s x.key).toArray] W fun e w' => e = .returned (.bool eq) ∧ Below W.heap.size W w' from fun W => by rw [heq]; exact in_any y x.key x.hk W)
                have HEQ := Lib.hid heq
                clear heq
                subst hAY
                go_wp2_with fail
                refine wp_region_mix [(0, true), (1, true), (2, true), (3, true), (4, true), (5, true), (6, true), (7, true), (8, true), (9, true), (10, true), (11, false), (12, true), (13, true)] (Behind wr)
                  (by kernel_rfl) (by kernel_rfl) (fun _ _ d _ _ h => by cases d <;> exact h) (by kernel_rfl) (by decide) (Below.refl _ _).drew ?_
                have hz0 : Behind wr wr.drew := (Below.refl _ _).drew
                repeat (
                  refine wpMix_q (by with_unfolding_all rfl) (by kernel_rfl) ?_
                  first
                    | go_big_quiet_skip
                    | ((with_reducible refine wpQuiet_loadAll (by with_unfolding_all rfl) 26 _ (by with_unfolding_all rfl) gY (oY + k2 * 35) (by with_unfolding_all rfl) (encG y) _ (fun w h => HRY.out w h) Tryd.underlying26 (by with_unfolding_all rfl) (HLG.out y) ?_); simp only [Act.put, List.setIfInBounds_toArray, List.set_cons_zero, List.set_cons_succ])
                    | ((with_reducible refine wpQuiet_loadAll (by with_unfolding_all rfl) 24 _ (by with_unfolding_all rfl) gX (oX + i * 65) (by with_unfolding_all rfl) (u8s x.key) _ (fun w h => HX.out w h) HUD.out (by with_unfolding_all rfl) (HDG.out _ x.hk) ?_); simp only [Act.put, List.setIfInBounds_toArray, List.set_cons_zero, List.set_cons_succ])
                    | (go_big_quiet_step (exact fun _ => rfl))
                  refine wpMix_qnil ?_)
                refine mix_callv 22 [.agg (encG y).toArray, .agg (u8s x.key).toArray] (.bool eq) (by with_unfolding_all rfl) (by with_unfolding_all rfl) (by with_unfolding_all rfl) ((HIN.out _).mono (fun e w' ⟨he, hb⟩ => ⟨he, Behind.trans' hz0 hb⟩)) ?_
                intro z1 hz1
                simp only [Act.put, List.setIfInBounds_toArray, List.set_cons_zero, List.set_cons_succ]
                repeat (
                  refine wpMix_q (by with_unfolding_all rfl) (by kernel_rfl) ?_
                  first
                    | go_big_quiet_skip
                    | (go_big_quiet_step (exact fun _ => rfl))
                  refine wpMix_qnil ?_)
                refine wpMix_nil ?_
                have HQ3 := Lib.hid (show Behind wr z1 from hz1)
                clear hz0 hz1
                go_wp2_with fail
                go_roundg (na - (k2 + 1))
                case measure => omega
                case rel => exact ⟨k2 + 1, eq, by go_num, rfl, by omega, Nat.le_refl _, (show Hid _ from (by rw [HST.out, HEQ.out]; rfl)), Behind.trB HQ2.out HQ3.out⟩
            · have hkn : k2 = na := by omega
              have hlkz2 : ¬ (k2 : Int) < (na : Int) := by omega
              have hb : b = true := by
                rw [HA2.out, List.take_of_length_le (by have := HNA.out; omega), List.any_eq_true]
                exact HGV.out.2.1
              subst hb
              clear hkn HX hkk2
              generalize wr = w2 at *
              go_upto_region 22 with fail
              go_loopg [9, 13] nt (fun gg s9 s10 wr => ∃ k : Nat, s10 = .int .i64 k ∧ s9 = .bool true ∧ k ≤ nt ∧ nt - k ≤ gg ∧ Hid (Behind w5 wr))
              case atStart => exact ⟨0, rfl, rfl, Nat.zero_le _, by omega, HQ2.out⟩
              case round =>
                obtain ⟨k3, rfl, rfl, hk3, hkk3, HQ4⟩ := hrel
                have HX := Lib.hid (show ∀ W, Behind wr W → W.rangeAt gX (oX + i * 65) (encR x) from fun W h => HRX.out W (Behind.trB HQ4.out h))
                by_cases hlk3 : k3 < nt
                · have hlkz3 : (k3 : Int) < (nt : Int) := by omega
                  have k30 : (0 : Int) ≤ (k3 : Int) := by omega
                  have hkl3 : k3 < t.length := by have := HNT.out; omega
                  obtain ⟨gY, oY, hAY, hgY, hrY⟩ := (HS1.out wr HQ4.out).at hkl3
                  obtain ⟨y, hy⟩ : ∃ y, y = t[k3] := ⟨_, rfl⟩
                  have hne : y ≠ x := fun e => HGV.out.2.2 (by rw [← e, hy]; exact List.getElem_mem hkl3)
                  have HQY := Lib.hid (show ∀ w, (binOp .neq 38 (.agg (encR y).toArray) (.agg (encR x).toArray)).run Tryd.prog w = .ok (.bool true) w from fun w => by have h := run_neq_rec w y x; rw [decide_eq_false hne] at h; exact h)
                  rw [← hy] at hrY
                  have HRY := Lib.hid (show ∀ W, Behind wr W → W.rangeAt gY (oY + k3 * 65) (encR y) from fun W h => range_below' hrY h hgY)
                  clear hrY hy hgY hne
                  subst hAY
                  go_wp2_with fail
                  refine wp_region_class (Behind wr) (by kernel_rfl) (by kernel_rfl) (Below.refl _ _).drew ?_
                  iterate 13 (first
                    | go_big_quiet_skip
                    | ((with_reducible refine wpQuiet_loadAll (by with_unfolding_all rfl) 38 _ (by with_unfolding_all rfl) gX (oX + i * 65) (by with_unfolding_all rfl) (encR x) _ (fun w h => HX.out w h) Tryd.underlying38 (by with_unfolding_all rfl) (HLR.out x) ?_); simp only [Act.put, List.setIfInBounds_toArray, List.set_cons_zero, List.set_cons_succ])
                    | ((with_reducible refine wpQuiet_loadAll (by with_unfolding_all rfl) 38 _ (by with_unfolding_all rfl) gY (oY + k3 * 65) (by with_unfolding_all rfl) (encR y) _ (fun w h => HRY.out w h) Tryd.underlying38 (by with_unfolding_all rfl) (HLR.out y) ?_); simp only [Act.put, List.setIfInBounds_toArray, List.set_cons_zero, List.set_cons_succ])
                    | ((with_reducible refine wpQuiet_bin (by with_unfolding_all rfl) .neq 38 _ _ _ (by with_unfolding_all rfl) (.agg (encR y).toArray) (.agg (encR x).toArray) (.bool true) (by with_unfolding_all rfl) (by with_unfolding_all rfl) (fun w => run_eqGuard_rec w _ _ _ _ _) HQY.out ?_); simp only [Act.put, List.setIfInBounds_toArray, List.set_cons_zero, List.set_cons_succ])
                    | (go_big_quiet_step (exact fun _ => rfl)))
                  with_reducible refine wpQuiet_nil ?_
                  intro w3 hw3
                  have HQ3 := Lib.hid (show Behind wr w3 from hw3)
                  clear hw3
                  go_wp2_with fail
                  go_roundg (nt - (k3 + 1))
                  case measure => omega
                  case rel => exact ⟨k3 + 1, by go_num, rfl, by omega, Nat.le_refl _, Behind.trB HQ4.out HQ3.out⟩
                · have hlkz3 : ¬ (k3 : Int) < (nt : Int) := by omega
                  go_wp2_with fail
                  go_roundg (N - (i + 1))
                  case measure => omega
                  case rel => exact ⟨i + 1, by go_num, by omega, Nat.le_refl _, HQ4.out⟩
    · have hltz : ¬ (i : Int) < (N : Int) := by omega
      go_wp2_with fail
      go_ret
      exact ⟨rfl, Behind.trB HQ5.out HQ.out⟩
end Go.Proofs.YtefbllhpibfojaaDoor
