/- The reference's Fill of layer 16. -/
import Derived.Test.YtefbllhpibfojaaDoorGleIM
import Derived.Test.YtefbllhpibfojaaDoorGleGM
namespace Go.Proofs.YtefbllhpibfojaaDoor
open Go.Proofs Stab Go.Shelf Go.RowKit Go.Lib Go.Sort

theorem EncIn.grown0 {α : Type} {enc : α → List Value} {k : Nat} {w w' : World} {A : Option Addr} {l : List α} (h : EncIn enc k w A l) {row : Option Nat} (hg : w.grownBy w' row) (hne : 0 < l.length → ∀ g off, A = some ⟨g, off, none⟩ → some g ≠ row) : EncIn enc k w' A l := fun h0 => h.grown hg (hne h0) h0
theorem EncIn.blk {α : Type} {enc : α → List Value} {k : Nat} {w : World} {A : Option Addr} {l : List α} (h : EncIn enc k w A l) (h0 : 0 < l.length) : ∃ g off, A = some ⟨g, off, none⟩ ∧ g < w.heap.size := by
  obtain ⟨g, off, e, hlt, _⟩ := h h0
  exact ⟨g, off, e, hlt⟩
theorem out_keep (th : List Rec) (good : List Rng) (x : Rec) : (!outF th good x) = (good.any (fun r => inB r x.key) && !th.any fun y => decide (x = y)) := by
  unfold outF
  cases th.any (fun y => decide (x = y)) <;> cases good.any (fun r => inB r x.key) <;> rfl
set_option maxRecDepth 100000 in
set_option maxHeartbeats 8000000 in
theorem reffill_any (B : Option Addr) (cb m : Nat) (asks : List Rng) (Th : Option Addr) (ct tn : Nat) (th : List Rec) (A : Option Addr) (c n : Nat) (l : List Rec) (w : World) (hlm : m = asks.length) (hF : EncIn encG 35 w B asks) (hm : m < 1000000) (hlt : tn = th.length) (hT : EncIn encR 65 w Th th) (htn : tn < 1000000) (hln : n = l.length) (hE : EncIn encR 65 w A l) (hn : n < 1000000) (M : Nat) (hM : M = (fillR asks th l).length) :
    Calls Tryd.prog 37 #[.slice B m cb, .slice Th tn ct, .slice A n c] w fun e w' => ∃ A' c', e = .returned (.slice A' M c') ∧ M ≤ c' ∧ EncIn encR 65 w' A' (fillR asks th l) ∧ Below w.heap.size w w' := by
  have HB0 := Lib.hid (show Below w.heap.size w w from Below.refl _ _)
  have HEa := Lib.hid (show ∀ W, Behind w W → EncIn encG 35 W B asks from fun W h => hF.up h)
  have HEt := Lib.hid (show ∀ W, Behind w W → EncIn encR 65 W Th th from fun W h => hT.up h)
  have HEl := Lib.hid (show ∀ W, Behind w W → EncIn encR 65 W A l from fun W h => hE.up h)
  have HLM := Lib.hid hlm
  have HLT := Lib.hid hlt
  have HLN := Lib.hid hln
  have HM := Lib.hid hM
  have HLR := Lib.hid (show ∀ x, (Tryd.prog.info? 38).map (·.size) = some (encR x).length from fun x => by rw [encR_len]; exact infoRec)
  have HLG := Lib.hid (show ∀ x, (Tryd.prog.info? 26).map (·.size) = some (encG x).length from fun x => by rw [encG_len]; exact infoRng)
  have HUD := Lib.hid Tryd.underlying24
  have HDG := Lib.hid (show ∀ l : List UInt8, l.length = 32 → (Tryd.prog.info? 24).map (·.size) = some (u8s l).length from fun l hl => by rw [u8s_length, hl]; exact infoDg)
  obtain ⟨M14, hM14⟩ : ∃ M, M = (goodsF asks).length := ⟨_, rfl⟩
  have hM16 : M14 ≤ 16 := by rw [hM14]; unfold goodsF; rw [List.length_take]; omega
  have HM14 := Lib.hid hM14
  obtain ⟨NS, hNS⟩ : ∃ N, N = (sortR l).length := ⟨_, rfl⟩
  have hNSn : NS ≤ n := by have := sortR_len l; omega
  have HNS := Lib.hid hNS
  clear hF hT hE hlm hlt hln hM hM14 hNS
  go_enter Tryd.func37, Tryd.ntmps37
  go_wp2_with (first
    | ((with_reducible refine wpList_to (.slice (some ⟨w.heap.size, 0, none⟩) 0 0) (w.alloc (.cells #[] 38)) rfl (exec_none rfl Tryd.underlying22 sizeRec w) ?_); have HO1 := Lib.hid (own_none (k := 65) (enc := encR) w 38 (base := w.heap.size) (Nat.le_refl _)); have HB1 := Lib.hid (show Below w.heap.size w (w.alloc (.cells #[] 38)) from (Below.refl _ _).alloc (Nat.le_refl _) _); have HQ1b := Lib.hid (show Behind w (w.alloc (.cells #[] 38)) from HB1.out))
    | (go_at_call 28; (with_reducible refine Calls.mono (refsort_own A c l _ n NS HLN.out HNS.out (HEl.out _ HQ1b.out) (by omega)) ?_); rintro e w2 ⟨v8, rfl, hO8, hb⟩; have hlt8 := hO8.lt; obtain ⟨A8, c8, rfl, _, hE⟩ := hO8.rows HNS.out (fun x _ => encR_len x); have HE8 := Lib.hid hE; have HQ2 := Lib.hid (show Behind w w2 from HB1.out.trans (hb.mono HB1.out.size)); have HS2 := Lib.hid (show w.heap.size < w2.heap.size from by (have h1 := hb.size; rw [World.size_alloc] at h1; omega)); have HB8 := Lib.hid (show ∀ ad, A8 = some ad → w.heap.size < ad.block from fun ad e => by (have h1 := (hlt8 ad.block (by rw [e]; rfl)).1; rw [World.size_alloc] at h1; omega)); have HO7 := Lib.hid (HO1.out.below hb); clear hE hb hO8 hlt8)
    | ((with_reducible refine wpList_to (.slice (some ⟨w2.heap.size, 0, none⟩) 0 0) (w2.alloc (.cells #[] 26)) rfl (exec_none rfl Tryd.underlying45 sizeRng w2) ?_); have HO9 := Lib.hid (own_none (k := 35) (enc := encG) w2 26 (base := w2.heap.size) (Nat.le_refl _)); have HB9 := Lib.hid (show Behind w2 (w2.alloc (.cells #[] 26)) from (Below.refl _ _).alloc (Nat.le_refl _) _)))
  generalize w2.alloc (.cells #[] 26) = w3 at HO9 HB9 ⊢
  go_loopg [9, 10] m (fun gg s9 s10 wr => ∃ (i K : Nat) (v : Value), v = s9 ∧ s10 = .int .i64 i ∧ i ≤ m ∧ m - i ≤ gg ∧ K ≤ i ∧ Hid (K = ((asks.take i).filter fun r => goodB r).length) ∧ Hid (Own wr w2.heap.size 26 35 v K (((asks.take i).filter fun r => goodB r).flatMap encG)) ∧ Hid (Behind w2 wr))
  case atStart => exact ⟨0, 0, _, rfl, rfl, Nat.zero_le _, by omega, by omega, (show Hid _ from (rfl : 0 = ((asks.take 0).filter fun r => goodB r).length)), HO9.out, HB9.out⟩
  case round =>
    obtain ⟨i, K, v, hv, rfl, hi, hgg, hKi, HK, HO, HQ⟩ := hrel
    subst hv
    have HQw := Lib.hid (Behind.tr HQ2.out HQ.out)
    have HBW := Lib.hid (show Below w2.heap.size w2 wr from HQ.out)
    by_cases hlt : i < m
    · have hltz : (i : Int) < (m : Int) := by omega
      have i0 : (0 : Int) ≤ (i : Int) := by omega
      have hil : i < asks.length := by have := HLM.out; omega
      obtain ⟨gY, oY, hAY, hgY, hrY⟩ := (HEa.out w (Behind.refl _)).at hil
      obtain ⟨y, hy⟩ : ∃ y, y = asks[i] := ⟨_, rfl⟩
      rw [← hy] at hrY
      have HRY := Lib.hid (show ∀ W, Behind w W → W.rangeAt gY (oY + i * 35) (encG y) from fun W h => range_below' hrY h hgY)
      have HFS := Lib.hid (show (asks.take (i + 1)).filter (fun r => goodB r) = (asks.take i).filter (fun r => goodB r) ++ (if goodB y then [y] else []) by
        rw [List.take_succ_eq_append_getElem hil, List.filter_append, ← hy]
        congr 1
        rw [List.filter_cons]
        cases goodB y <;> rfl)
      have HGY := Lib.hid (show ∀ W, Calls Tryd.prog 29 #[.agg (encG y).toArray] W fun e w' => e = .returned (.bool (goodB y)) ∧ Below W.heap.size W w' from fun W => refgood_any y W)
      clear hrY hy hgY
      subst hAY
      cases hg : goodB y with
      | true =>
        rw [hg] at HGY
        rw [hg, if_pos rfl] at HFS
        clear hg
        go_wp2_with (first
          | (with_reducible refine wpList_loadW (by with_unfolding_all rfl) 26 (.tmp 27) rfl gY (oY + i * 35) (by with_unfolding_all rfl) (encG y) _ (HRY.out _ HQw.out) Tryd.underlying26 (by with_unfolding_all rfl) (HLG.out y) ?_)
          | (go_at_call 29; (with_reducible refine Calls.mono (HGY.out _) ?_); rintro e u1 ⟨rfl, hb⟩; have HBu := Lib.hid hb; have HBu2 := Lib.hid (HBW.out.trans (hb.mono HBW.out.size)); have HOu := Lib.hid (HO.out.below hb); have HQu := Lib.hid (show Behind w u1 from Behind.trans' HQw.out hb); have hus := HBu2.out.size; clear hb)
          | (with_reducible refine wpList_loadW (by with_unfolding_all rfl) 26 (.tmp 33) rfl gY (oY + i * 35) (by with_unfolding_all rfl) (encG y) _ (HRY.out _ HQu.out) Tryd.underlying26 (by with_unfolding_all rfl) (HLG.out y) ?_)
          | ((with_reducible refine wpList_one rfl 45 26 35 y (.tmp 34) rfl (by with_unfolding_all rfl) Tryd.underlying45 info2Rng (by decide) (by decide) (encG_len y) ?_); intro g35 u2 hg hb hE; have HEO35 := Lib.hid hE; have HBO35 := Lib.hid hb; clear hg hb hE)
          | (at_builtin; refine wpList_append_enc (enc := encG) (k := 35) rfl rfl (.tmp 30) (.tmp 35) 45 26 56 rfl _ Tryd.underlying45 info3Rng rfl (by decide) w2.heap.size v (K) ((asks.take i).filter fun r => goodB r) [y] rfl (HOu.out.below HBO35.out) (fun _ _ => encG_len _) (fun _ _ => encG_one _) (some ⟨g35, 0, none⟩) 1 1 rfl rfl HEO35.out (by unfold maxLen; simp; omega) (by simp; omega) (Nat.le_trans hus HBO35.out.size) ?_; intro v7 u3 hO7 hg7 hob; have hbx := own_below2 (HOu.out.below HBO35.out) (Below.trans HBu2.out (HBO35.out.mono HBu2.out.size)) (Nat.le_refl _) (Nat.le_trans hus HBO35.out.size) hg7; have HOv7 := Lib.hid hO7; have HBv7 := Lib.hid hbx; have HQv7 := Lib.hid (show Behind w2 u3 from hbx); clear hO7 hg7 hbx hob))
        go_roundg (m - (i + 1))
        case measure => omega
        case rel => exact ⟨i + 1, K + 1, v7, rfl, by go_num, by omega, Nat.le_refl _, by omega, (show Hid _ from (by rw [HFS.out, List.length_append, HK.out]; rfl)), (show Hid _ from (by rw [HFS.out]; exact HOv7.out)), HQv7.out⟩
      | false =>
        rw [hg] at HGY
        rw [hg, if_neg (by simp), List.append_nil] at HFS
        clear hg
        go_wp2_with (first
          | (with_reducible refine wpList_loadW (by with_unfolding_all rfl) 26 (.tmp 27) rfl gY (oY + i * 35) (by with_unfolding_all rfl) (encG y) _ (HRY.out _ HQw.out) Tryd.underlying26 (by with_unfolding_all rfl) (HLG.out y) ?_)
          | (go_at_call 29; (with_reducible refine Calls.mono (HGY.out _) ?_); rintro e u1 ⟨rfl, hb⟩; have HBu := Lib.hid hb; have HBu2 := Lib.hid (HBW.out.trans (hb.mono HBW.out.size)); have HOu := Lib.hid (HO.out.below hb); have HQu := Lib.hid (show Behind w u1 from Behind.trans' HQw.out hb); have hus := HBu2.out.size; clear hb))
        go_roundg (m - (i + 1))
        case measure => omega
        case rel => exact ⟨i + 1, K, v, rfl, by go_num, by omega, Nat.le_refl _, by omega, (show Hid _ from (by rw [HFS.out]; exact HK.out)), (show Hid _ from (by rw [HFS.out]; exact HO.out.below HBu.out)), Behind.trans' HQ.out HBu.out⟩
    · have hltz : ¬ (i : Int) < (m : Int) := by omega
      have hO := HO.out
      have hK := HK.out
      rw [List.take_of_length_le (by have := HLM.out; omega)] at hO hK
      have hlt9 := hO.lt
      obtain ⟨A9, c9, rfl, hc9, hE9⟩ := hO.rows hK (fun x _ => encG_len x)
      have HFR := Lib.hid (reffirst_rngs A9 c9 K (asks.filter fun r => goodB r) wr hK hc9 hE9 (by omega) M14 HM14.out)
      have hb9 : ∀ ad, A9 = some ad → w2.heap.size ≤ ad.block := fun ad e => (hlt9 ad.block (by rw [e]; rfl)).1
      have HB9' := Lib.hid hb9
      clear hO hK hE9 hlt9 hb9 HO HK
      go_upto_region 10 with (first
        | (go_at_call 67; (with_reducible refine Calls.mono HFR.out ?_); rintro e w' ⟨A14, rfl, hE, hbk, rfl⟩; have HE14 := Lib.hid hE; have HBK := Lib.hid hbk; clear hE hbk))
      have hne7 : ∀ g o, (Value.slice (some ⟨w.heap.size, 0, none⟩) 0 0).ownBlock = some g → A8 ≠ some ⟨g, o, none⟩ ∧ (0 < (goodsF asks).length → A14 ≠ some ⟨g, o, none⟩) := fun g o hg => by
        have h2 : w.heap.size = g := Option.some.inj hg
        refine ⟨fun e => ?_, fun _ e => ?_⟩
        · have h1 := HB8.out _ e
          simp only at h1
          omega
        · obtain ⟨ad', e1, e2⟩ := HBK.out _ e
          have h1 := HB9'.out ad' e1
          have h3 := HS2.out
          simp only at e2
          omega
      have HNE7 := Lib.hid hne7
      have HO3 := Lib.hid (HO7.out.below HBW.out)
      have HE8r := Lib.hid (HE8.out.up HBW.out)
      clear hne7
      generalize wr = wL at *
      go_wp2_with fail
      go_loopg [7, 11] NS (fun gg s7 s11 wr => ∃ (i K : Nat) (v : Value), v = s7 ∧ s11 = .int .i64 i ∧ i ≤ NS ∧ NS - i ≤ gg ∧ K ≤ i ∧ Hid (K = (((sortR l).take i).filter fun x => !outF th (goodsF asks) x).length) ∧ Hid (Own wr w.heap.size 38 65 v K ((((sortR l).take i).filter fun x => !outF th (goodsF asks) x).flatMap encR)) ∧ Hid (Behind w wr) ∧ Hid (EncIn encR 65 wr A8 (sortR l)) ∧ Hid (EncIn encG 35 wr A14 (goodsF asks)) ∧ Hid (∀ g o, v.ownBlock = some g → A8 ≠ some ⟨g, o, none⟩ ∧ (0 < (goodsF asks).length → A14 ≠ some ⟨g, o, none⟩)))
      case atStart => exact ⟨0, 0, _, rfl, rfl, Nat.zero_le _, by omega, by omega, (show Hid _ from (rfl : 0 = (((sortR l).take 0).filter fun x => !outF th (goodsF asks) x).length)), HO3.out, HQw.out, HE8r.out, HE14.out, HNE7.out⟩
      case round =>
        obtain ⟨i2, K2, v, hv, rfl, hi2, hgg2, hKi2, HK2, HO2, HQo, HE8x, HE14x, HNE⟩ := hrel
        subst hv
        generalize wr = wo at *
        by_cases hlt2 : i2 < NS
        · have hltz2 : (i2 : Int) < (NS : Int) := by omega
          have i20 : (0 : Int) ≤ (i2 : Int) := by omega
          have hil2 : i2 < (sortR l).length := by have := HNS.out; omega
          obtain ⟨gX, oX, hAX, hgX, hrX⟩ := (HE8x.out).at hil2
          obtain ⟨x, hx⟩ : ∃ x, x = (sortR l)[i2] := ⟨_, rfl⟩
          rw [← hx] at hrX
          have HRX := Lib.hid (show ∀ W, Behind wo W → W.rangeAt gX (oX + i2 * 65) (encR x) from fun W h => range_below' hrX h hgX)
          obtain ⟨kx, hkx⟩ : ∃ k, k = (!outF th (goodsF asks) x) := ⟨_, rfl⟩
          have HFS := Lib.hid (show ((sortR l).take (i2 + 1)).filter (fun x => !outF th (goodsF asks) x) = ((sortR l).take i2).filter (fun x => !outF th (goodsF asks) x) ++ (if kx then [x] else []) by
            rw [List.take_succ_eq_append_getElem hil2, List.filter_append, ← hx, hkx]
            congr 1
            rw [List.filter_cons]
            cases (!outF th (goodsF asks) x) <;> rfl)
          obtain ⟨b1, hb1⟩ : ∃ b, b = (goodsF asks).any fun r => inB r x.key := ⟨_, rfl⟩
          have HKX := Lib.hid (show kx = (b1 && !th.any fun y => decide (x = y)) by rw [hkx, out_keep, hb1])
          have HBB := Lib.hid hb1
          clear hrX hx hkx hb1
          subst hAX
          go_upto_region 15 with fail
          go_loopg [12, 13] M14 (fun gg s9 s10 wr => ∃ (k : Nat) (b : Bool), s10 = .int .i64 k ∧ s9 = .bool b ∧ k ≤ M14 ∧ M14 - k ≤ gg ∧ Hid (b = ((goodsF asks).take k).any fun r => inB r x.key) ∧ Hid (Behind wo wr))
          case atStart => exact ⟨0, false, rfl, rfl, Nat.zero_le _, by omega, (show Hid _ from (rfl : false = ((goodsF asks).take 0).any fun r => inB r x.key)), Behind.refl _⟩
          case round =>
            obtain ⟨k, b, rfl, rfl, hk, hkk, HA, HQ1⟩ := hrel
            have HX := Lib.hid (show ∀ W, Behind wr W → W.rangeAt gX (oX + i2 * 65) (u8s x.key) from fun W h => rec_key (HRX.out W (Behind.tr HQ1.out h)))
            by_cases hlk : k < M14
            · have hlkz : (k : Int) < (M14 : Int) := by omega
              have k0 : (0 : Int) ≤ (k : Int) := by omega
              have hkl : k < (goodsF asks).length := by have := HM14.out; omega
              obtain ⟨gY, oY, hAY, hgY, hrY⟩ := (HE14x.out.up HQ1.out).at hkl
              obtain ⟨y, hy⟩ : ∃ y, y = (goodsF asks)[k] := ⟨_, rfl⟩
              have hst : ((goodsF asks).take (k + 1)).any (fun r => inB r x.key) = (b || inB y x.key) := by
                rw [List.take_succ_eq_append_getElem hkl, List.any_append, ← HA.out, ← hy]
                simp
              rw [← hy] at hrY
              have HRY := Lib.hid (show ∀ W, Behind wr W → W.rangeAt gY (oY + k * 35) (encG y) from fun W h => range_below' hrY h hgY)
              have HST := Lib.hid hst
              clear hrY hy hst hgY
              cases b with
              | true =>
                go_wp2_with fail
                refine wp_region_mix [(0, true), (1, true), (2, true), (3, true), (4, true), (5, true), (6, true), (7, true), (8, true), (9, true), (10, true), (11, false), (12, true), (13, true)] (Behind wr)
                  (by kernel_rfl) (by kernel_rfl) (fun _ _ d _ _ h => by cases d <;> exact h) (by kernel_rfl) (by decide) (Below.refl _ _).drew ?_
                have hz0 : Behind wr wr.drew := (Below.refl _ _).drew
                repeat (
                  refine wpMix_q (by with_unfolding_all rfl) (by kernel_rfl) ?_
                  first
                    | go_big_quiet_skip
                    | (go_big_quiet_step (exact fun _ => rfl))
                  refine wpMix_qnil ?_)
                refine wpMix_skip (by with_unfolding_all rfl) (by with_unfolding_all rfl) hz0 ?_
                simp only [Act.put, List.setIfInBounds_toArray, List.set_cons_zero, List.set_cons_succ]
                repeat (
                  refine wpMix_q (by with_unfolding_all rfl) (by kernel_rfl) ?_
                  first
                    | go_big_quiet_skip
                    | (go_big_quiet_step (exact fun _ => rfl))
                  refine wpMix_qnil ?_)
                refine wpMix_nil ?_
                have hz1 : Behind wr wr.drew := hz0
                generalize wr.drew = z1 at hz1 ⊢
                have HQ3 := Lib.hid (show Behind wr z1 from hz1)
                clear hz0 hz1
                go_wp2_with fail
                go_roundg (M14 - (k + 1))
                case measure => omega
                case rel => exact ⟨k + 1, true, by go_num, rfl, by omega, Nat.le_refl _, (show Hid _ from (by rw [HST.out]; rfl)), Behind.tr HQ1.out HQ3.out⟩
              | false =>
                obtain ⟨eq, heq⟩ : ∃ e, e = inB y x.key := ⟨_, rfl⟩
                have HIN := Lib.hid (show ∀ W, Calls Tryd.prog 30 #[.agg (encG y).toArray, .agg (u8s x.key).toArray] W fun e w' => e = .returned (.bool eq) ∧ Below W.heap.size W w' from fun W => by rw [heq]; exact refin_any y x.key x.hk W)
                have HEQ := Lib.hid heq
                clear heq
                have HAY := Lib.hid hAY
                subst hAY
                go_wp2_with fail
                refine wp_region_mix [(0, true), (1, true), (2, true), (3, true), (4, true), (5, true), (6, true), (7, true), (8, true), (9, true), (10, true), (11, false), (12, true), (13, true)] (Behind wr)
                  (by kernel_rfl) (by kernel_rfl) (fun _ _ d _ _ h => by cases d <;> exact h) (by kernel_rfl) (by decide) (Below.refl _ _).drew ?_
                have hz0 : Behind wr wr.drew := (Below.refl _ _).drew
                repeat (
                  refine wpMix_q (by with_unfolding_all rfl) (by kernel_rfl) ?_
                  first
                    | go_big_quiet_skip
                    | ((with_reducible refine wpQuiet_loadAll (by with_unfolding_all rfl) 26 _ (by with_unfolding_all rfl) gY (oY + k * 35) (by with_unfolding_all rfl) (encG y) _ (fun w h => HRY.out w h) Tryd.underlying26 (by with_unfolding_all rfl) (HLG.out y) ?_); simp only [Act.put, List.setIfInBounds_toArray, List.set_cons_zero, List.set_cons_succ])
                    | ((with_reducible refine wpQuiet_loadAll (by with_unfolding_all rfl) 24 _ (by with_unfolding_all rfl) gX (oX + i2 * 65) (by with_unfolding_all rfl) (u8s x.key) _ (fun w h => HX.out w h) HUD.out (by with_unfolding_all rfl) (HDG.out _ x.hk) ?_); simp only [Act.put, List.setIfInBounds_toArray, List.set_cons_zero, List.set_cons_succ])
                    | (go_big_quiet_step (exact fun _ => rfl))
                  refine wpMix_qnil ?_)
                refine mix_callv 30 [.agg (encG y).toArray, .agg (u8s x.key).toArray] (.bool eq) (by with_unfolding_all rfl) (by with_unfolding_all rfl) (by with_unfolding_all rfl) ((HIN.out _).mono (fun e w' ⟨he, hb⟩ => ⟨he, Behind.trans' hz0 hb⟩)) ?_
                intro z1 hz1
                simp only [Act.put, List.setIfInBounds_toArray, List.set_cons_zero, List.set_cons_succ]
                repeat (
                  refine wpMix_q (by with_unfolding_all rfl) (by kernel_rfl) ?_
                  first
                    | go_big_quiet_skip
                    | (go_big_quiet_step (exact fun _ => rfl))
                  refine wpMix_qnil ?_)
                refine wpMix_nil ?_
                have HQ3 := Lib.hid (show Behind wr z1 from hz1)
                clear hz0 hz1
                go_wp2_with fail
                go_roundg (M14 - (k + 1))
                case measure => omega
                case rel => exact ⟨k + 1, eq, by go_num, rfl, by omega, Nat.le_refl _, (show Hid _ from (by rw [HST.out, HEQ.out]; rfl)), Behind.tr HQ1.out HQ3.out⟩
            · have hlkz : ¬ (k : Int) < (M14 : Int) := by omega
              have hb : b = b1 := by rw [HA.out, HBB.out, List.take_of_length_le (by have := HM14.out; omega)]
              subst hb
              clear HX hkk HA
              generalize wr = wq at *
              go_upto_region 19 with fail
              go_loopg [12, 14] tn (fun gg s9 s10 wr => ∃ (k : Nat) (d : Bool), s10 = .int .i64 k ∧ s9 = .bool d ∧ k ≤ tn ∧ tn - k ≤ gg ∧ Hid (d = (b && !(th.take k).any fun y => decide (x = y))) ∧ Hid (Behind wo wr))
              case atStart => exact ⟨0, b, rfl, rfl, Nat.zero_le _, by omega, (show Hid _ from (by simp : b = (b && !(th.take 0).any fun y => decide (x = y)))), HQ1.out⟩
              case round =>
                obtain ⟨k3, d, rfl, rfl, hk3, hkk3, HA3, HQ4⟩ := hrel
                have HX := Lib.hid (show ∀ W, Behind wr W → W.rangeAt gX (oX + i2 * 65) (encR x) from fun W h => HRX.out W (Behind.tr HQ4.out h))
                by_cases hlk3 : k3 < tn
                · have hlkz3 : (k3 : Int) < (tn : Int) := by omega
                  have k30 : (0 : Int) ≤ (k3 : Int) := by omega
                  have hkl3 : k3 < th.length := by have := HLT.out; omega
                  obtain ⟨gY, oY, hAY, hgY, hrY⟩ := (HEt.out wr (Behind.tr HQo.out HQ4.out)).at hkl3
                  obtain ⟨y, hy⟩ : ∃ y, y = th[k3] := ⟨_, rfl⟩
                  have hst : (b && !(th.take (k3 + 1)).any fun y => decide (x = y)) = (d && !decide (x = y)) := by
                    rw [List.take_succ_eq_append_getElem hkl3, List.any_append, HA3.out, ← hy]
                    cases b <;> simp
                  rw [← hy] at hrY
                  have HRY := Lib.hid (show ∀ W, Behind wr W → W.rangeAt gY (oY + k3 * 65) (encR y) from fun W h => range_below' hrY h hgY)
                  have HST := Lib.hid hst
                  clear hrY hy hst hgY
                  cases d with
                  | false =>
                    go_wp2_with fail
                    refine wp_region_class (Behind wr) (by kernel_rfl) (by kernel_rfl) (Below.refl _ _).drew ?_
                    iterate 13 (first
                      | go_big_quiet_skip
                      | (go_big_quiet_step (exact fun _ => rfl)))
                    with_reducible refine wpQuiet_nil ?_
                    intro w3 hw3
                    have HQ3 := Lib.hid (show Behind wr w3 from hw3)
                    clear hw3
                    go_wp2_with fail
                    go_roundg (tn - (k3 + 1))
                    case measure => omega
                    case rel => exact ⟨k3 + 1, false, by go_num, rfl, by omega, Nat.le_refl _, (show Hid _ from (by rw [HST.out]; rfl)), Behind.tr HQ4.out HQ3.out⟩
                  | true =>
                    obtain ⟨ne, hne⟩ : ∃ e, e = !decide (x = y) := ⟨_, rfl⟩
                    have HQY := Lib.hid (show ∀ w, (binOp .neq 38 (.agg (encR y).toArray) (.agg (encR x).toArray)).run Tryd.prog w = .ok (.bool ne) w from fun w => by rw [hne, show decide (x = y) = decide (y = x) by rw [decide_eq_decide]; exact eq_comm]; exact run_neq_rec w y x)
                    have HNQ := Lib.hid hne
                    clear hne
                    subst hAY
                    go_wp2_with fail
                    refine wp_region_class (Behind wr) (by kernel_rfl) (by kernel_rfl) (Below.refl _ _).drew ?_
                    iterate 13 (first
                      | go_big_quiet_skip
                      | ((with_reducible refine wpQuiet_loadAll (by with_unfolding_all rfl) 38 _ (by with_unfolding_all rfl) gX (oX + i2 * 65) (by with_unfolding_all rfl) (encR x) _ (fun w h => HX.out w h) Tryd.underlying38 (by with_unfolding_all rfl) (HLR.out x) ?_); simp only [Act.put, List.setIfInBounds_toArray, List.set_cons_zero, List.set_cons_succ])
                      | ((with_reducible refine wpQuiet_loadAll (by with_unfolding_all rfl) 38 _ (by with_unfolding_all rfl) gY (oY + k3 * 65) (by with_unfolding_all rfl) (encR y) _ (fun w h => HRY.out w h) Tryd.underlying38 (by with_unfolding_all rfl) (HLR.out y) ?_); simp only [Act.put, List.setIfInBounds_toArray, List.set_cons_zero, List.set_cons_succ])
                      | ((with_reducible refine wpQuiet_bin (by with_unfolding_all rfl) .neq 38 _ _ _ (by with_unfolding_all rfl) (.agg (encR y).toArray) (.agg (encR x).toArray) (.bool ne) (by with_unfolding_all rfl) (by with_unfolding_all rfl) (fun w => run_eqGuard_rec w _ _ _ _ _) HQY.out ?_); simp only [Act.put, List.setIfInBounds_toArray, List.set_cons_zero, List.set_cons_succ])
                      | (go_big_quiet_step (exact fun _ => rfl)))
                    with_reducible refine wpQuiet_nil ?_
                    intro w3 hw3
                    have HQ3 := Lib.hid (show Behind wr w3 from hw3)
                    clear hw3
                    go_wp2_with fail
                    go_roundg (tn - (k3 + 1))
                    case measure => omega
                    case rel => exact ⟨k3 + 1, ne, by go_num, rfl, by omega, Nat.le_refl _, (show Hid _ from (by rw [HST.out, HNQ.out]; rfl)), Behind.tr HQ4.out HQ3.out⟩
                · have hlkz3 : ¬ (k3 : Int) < (tn : Int) := by omega
                  have hd : d = kx := by rw [HA3.out, HKX.out, List.take_of_length_le (by have := HLT.out; omega)]
                  subst hd
                  have HOe := Lib.hid (HO2.out.below HQ4.out)
                  have HBe := Lib.hid (show Below w.heap.size w wr from Behind.tr HQo.out HQ4.out)
                  have hes := HBe.out.size
                  have HE8e := Lib.hid (HE8x.out.up HQ4.out)
                  have HE14e := Lib.hid (HE14x.out.up HQ4.out)
                  have HXe := Lib.hid (HRX.out wr HQ4.out)
                  have hgXw : gX < wr.heap.size := Nat.lt_of_lt_of_le hgX (Below.size HQ4.out)
                  cases d with
                  | true =>
                    rw [if_pos rfl] at HFS
                    go_wp2_with (first
                      | (with_reducible refine wpList_loadW (by with_unfolding_all rfl) 38 (.tmp 86) rfl gX (oX + i2 * 65) (by with_unfolding_all rfl) (encR x) _ HXe.out Tryd.underlying38 (by with_unfolding_all rfl) (HLR.out x) ?_)
                      | ((with_reducible refine wpList_one rfl 22 38 65 x (.tmp 87) rfl (by with_unfolding_all rfl) Tryd.underlying22 info2Rec (by decide) (by decide) (encR_len x) ?_); intro g88 u1 hg hb hE; have HEO88 := Lib.hid hE; have HBO88 := Lib.hid hb; clear hg hb hE)
                      | (at_builtin; refine wpList_append_enc (enc := encR) (k := 65) rfl rfl (.tmp 83) (.tmp 88) 22 38 72 rfl _ Tryd.underlying22 info3Rec rfl (by decide) w.heap.size v (K2) (((sortR l).take i2).filter fun x => !outF th (goodsF asks) x) [x] rfl (HOe.out.below HBO88.out) (fun _ _ => encR_len _) (fun _ _ => encR_one _) (some ⟨g88, 0, none⟩) 1 1 rfl rfl HEO88.out (by unfold maxLen; simp; omega) (by simp; omega) (Nat.le_trans hes HBO88.out.size) ?_; intro v7 u2 hO7 hg7 hob; have hbx := own_below2 (HOe.out.below HBO88.out) (Below.trans HBe.out (HBO88.out.mono HBe.out.size)) (Nat.le_refl _) (Nat.le_trans hes HBO88.out.size) hg7; have HOv7 := Lib.hid hO7; have HBv7 := Lib.hid hbx; have HQv7 := Lib.hid (show Behind w u2 from hbx); have HE8v := Lib.hid ((HE8e.out.up HBO88.out).grown0 hg7 (fun _ g o e e2 => (HNE.out g o e2.symm).1 e)); have HE14v := Lib.hid ((HE14e.out.up HBO88.out).grown0 hg7 (fun h0 g o e e2 => (HNE.out g o e2.symm).2 h0 e)); have HNv := Lib.hid (show ∀ g o, v7.ownBlock = some g → some ⟨gX, oX, none⟩ ≠ some (⟨g, o, none⟩ : Addr) ∧ (0 < (goodsF asks).length → A14 ≠ some ⟨g, o, none⟩) from fun g o hg => hob.elim (fun h => HNE.out g o (h ▸ hg)) (fun h => by (rw [h] at hg; injection hg with hg; have hsz := HBO88.out.size; exact ⟨fun e => by (injection e with e; injection e with e1; omega), fun h0 e => by (obtain ⟨g', o', e', hlt'⟩ := HE14e.out.blk h0; rw [e'] at e; injection e with e; injection e with e1; omega)⟩))); clear hO7 hg7 hbx hob))
                    go_roundg (NS - (i2 + 1))
                    case measure => omega
                    case rel => exact ⟨i2 + 1, K2 + 1, v7, rfl, by go_num, by omega, Nat.le_refl _, by omega, (show Hid _ from (by rw [HFS.out, List.length_append, HK2.out]; rfl)), (show Hid _ from (by rw [HFS.out]; exact HOv7.out)), HQv7.out, HE8v.out, HE14v.out, HNv.out⟩
                  | false =>
                    rw [if_neg (by simp), List.append_nil] at HFS
                    go_wp2_with fail
                    go_roundg (NS - (i2 + 1))
                    case measure => omega
                    case rel => exact ⟨i2 + 1, K2, v, rfl, by go_num, by omega, Nat.le_refl _, by omega, (show Hid _ from (by rw [HFS.out]; exact HK2.out)), (show Hid _ from (by rw [HFS.out]; exact HOe.out)), Behind.tr HQo.out HQ4.out, HE8e.out, HE14e.out, HNE.out⟩
        · have hltz2 : ¬ (i2 : Int) < (NS : Int) := by omega
          have hO := HO2.out
          have hK := HK2.out
          rw [List.take_of_length_le (by have := HNS.out; omega)] at hO hK
          obtain ⟨A7, c7, rfl, hc7, hE7⟩ := hO.rows hK (fun x _ => encR_len x)
          have hMM : M ≤ c7 := by have h1 := HM.out; unfold fillR at h1; rw [List.length_take, ← hK] at h1; omega
          have HFR2 := Lib.hid (reffirst_recs A7 c7 K2 ((sortR l).filter fun x => !outF th (goodsF asks) x) wo hK hc7 hE7 (by omega) M HM.out)
          have HMM := Lib.hid hMM
          clear hO hK hE7 hMM HO2 HK2
          go_wp2_with (first
            | (go_at_call 68; (with_reducible refine Calls.mono HFR2.out ?_); rintro e w' ⟨A7', rfl, hE, _, rfl⟩; have HRES := Lib.hid hE; clear hE))
          go_ret
          exact ⟨A7', c7, rfl, HMM.out, HRES.out, HQo.out⟩
end Go.Proofs.YtefbllhpibfojaaDoor
