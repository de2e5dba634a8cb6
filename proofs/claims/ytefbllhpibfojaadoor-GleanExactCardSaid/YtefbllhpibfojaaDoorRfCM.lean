/- The reference's Items of layer 15. -/
import Derived.Test.YtefbllhpibfojaaDoorRfBM
namespace Go.Proofs.YtefbllhpibfojaaDoor
open Go.Proofs Stab Go.Shelf Go.RowKit Go.Lib Go.Sort

set_option maxRecDepth 100000 in
set_option maxHeartbeats 8000000 in
theorem refitems_any (r : Rng) (A : Option Addr) (c : Nat) (l : List Rec) (w : World) (n N : Nat) (hln : n = l.length) (hN : N = (itemsR r l).length) (hE : EncIn encR 65 w A l) (hn : n < 1099511627776) :
    Calls Tryd.prog 27 #[.agg (encG r).toArray, .slice A n c] w fun e w' => ∃ A' c', e = .returned (.slice A' N c') ∧ N ≤ c' ∧ EncIn encR 65 w' A' (itemsR r l) ∧ Below w.heap.size w w' := by
  have hr0 : At (w.alloc (.cells (encG r).toArray 26)) w.heap.size 26 (encG r) := At.new w _ _
  have hb0 : Below w.heap.size w (w.alloc (.cells (encG r).toArray 26)) := (Below.refl _ _).alloc (Nat.le_refl _) _
  have HR0 := Lib.hid hr0
  have HB0 := Lib.hid hb0
  have HE := Lib.hid hE
  have HLN := Lib.hid hln
  have HN := Lib.hid hN
  have HUD := Lib.hid Tryd.underlying24
  have HDG := Lib.hid (show ∀ l : List UInt8, l.length = 32 → (Tryd.prog.info? 24).map (·.size) = some (u8s l).length from fun l hl => by rw [u8s_length, hl]; exact infoDg)
  have HLR := Lib.hid (show ∀ x, (Tryd.prog.info? 38).map (·.size) = some (encR x).length from fun x => by rw [encR_len]; exact infoRec)
  have HLG := Lib.hid (show ∀ x, (Tryd.prog.info? 26).map (·.size) = some (encG x).length from fun x => by rw [encG_len]; exact infoRng)
  have HIN := Lib.hid (show ∀ (x : Rec) W, Calls Tryd.prog 30 #[.agg (encG r).toArray, .agg (u8s x.key).toArray] W fun e w' => e = .returned (.bool (inB r x.key)) ∧ Below W.heap.size W w' from fun x W => refin_any r x.key x.hk W)
  clear hr0 hb0 hE hln hN
  obtain ⟨M, hM⟩ : ∃ M, M = (sortR l).length := ⟨_, rfl⟩
  have hMn : M ≤ n := by have := sortR_len l; have := HLN.out; omega
  have HM := Lib.hid hM
  clear hM
  go_enter Tryd.func27, Tryd.ntmps27
  go_upto_region 1 with (fail)
  obtain ⟨g2, hg2⟩ : ∃ g, g = w.heap.size := ⟨_, rfl⟩
  rw [← hg2] at HR0 ⊢
  clear hg2
  generalize w.alloc (.cells (encG r).toArray 26) = w0 at HR0 HB0 ⊢
  go_wp2_with (first
    | ((with_reducible refine wpList_to (.slice (some ⟨w0.heap.size, 0, none⟩) 0 0) (w0.alloc (.cells #[] 38)) rfl (exec_none rfl Tryd.underlying22 sizeRec w0) ?_); have HO1 := Lib.hid (own_none (k := 65) (enc := encR) w0 38 (base := w0.heap.size) (Nat.le_refl _)); have HB1 := Lib.hid (show Below w0.heap.size w0 (w0.alloc (.cells #[] 38)) from (Below.refl _ _).alloc (Nat.le_refl _) _); have HE1 := Lib.hid ((HE.out.up HB0.out).up HB1.out))
    | (go_at_call 28; (with_reducible refine Calls.mono (refsort_own A c l _ n M HLN.out HM.out HE1.out hn) ?_); rintro e w2 ⟨v6, rfl, hO6, hb⟩; have hlt6 := hO6.lt; obtain ⟨A6, c6, rfl, _, hE⟩ := hO6.rows HM.out (fun x _ => encR_len x); have HE2 := Lib.hid hE; have HQ2 := Lib.hid (show Behind w0 w2 from HB1.out.trans (hb.mono HB1.out.size)); have HO2 := Lib.hid (HO1.out.below hb); have HNB := Lib.hid (show ∀ g o, (Value.slice (some ⟨w0.heap.size, 0, none⟩) 0 0).ownBlock = some g → A6 ≠ some ⟨g, o, none⟩ from fun g o hg e => by (have h1 := (hlt6 g (by rw [e]; rfl)).1; have h2 : w0.heap.size = g := Option.some.inj hg; rw [World.size_alloc] at h1; omega)); clear hE hb hO6 hlt6))
  go_loopg [5, 7] M (fun gg s5 s7 wr => ∃ (i K : Nat) (v : Value), v = s5 ∧ s7 = .int .i64 i ∧ i ≤ M ∧ M - i ≤ gg ∧ K ≤ i ∧ Hid (K = (((sortR l).take i).filter fun x => inB r x.key).length) ∧ Hid (Own wr w0.heap.size 38 65 v K ((((sortR l).take i).filter fun x => inB r x.key).flatMap encR)) ∧ Hid (Below w0.heap.size w0 wr) ∧ Hid (EncIn encR 65 wr A6 (sortR l)) ∧ Hid (∀ g o, v.ownBlock = some g → A6 ≠ some ⟨g, o, none⟩))
  case atStart => exact ⟨0, 0, _, rfl, rfl, Nat.zero_le _, by omega, Nat.le_refl _, (show Hid _ from (rfl : 0 = (((sortR l).take 0).filter fun x => inB r x.key).length)), HO2.out, HQ2.out, HE2.out, HNB.out⟩
  case round =>
    obtain ⟨i, K, v, hv, rfl, hi, hgg, hKi, HK, HO, HBW, HE6, HN6⟩ := hrel
    subst hv
    have hbs := HBW.out.size
    have HQW := Lib.hid (show Behind w0 wr from HBW.out)
    by_cases hlt : i < M
    · have hltz : (i : Int) < (M : Int) := by omega
      have i0 : (0 : Int) ≤ (i : Int) := by omega
      have hil : i < (sortR l).length := by have := HM.out; omega
      obtain ⟨gA, off, hA, hgA, hrg⟩ := (HE6.out).at hil
      obtain ⟨x, hx⟩ : ∃ x, x = (sortR l)[i] := ⟨_, rfl⟩
      rw [← hx] at hrg
      have HRX := Lib.hid (show ∀ W, Behind wr W → W.rangeAt gA (off + i * 65) (encR x) from fun W hW => range_below' hrg hW hgA)
      have HX := Lib.hid hx
      have HKX := Lib.hid (show ∀ W, Behind wr W → W.rangeAt gA (off + i * 65) (u8s x.key) from fun W h => rec_key (HRX.out W h))
      have HSR := Lib.hid (show ∀ W, Behind wr W → At W g2 26 (encG r) from fun W h => HR0.out.below (Behind.tr HQW.out h) HR0.out.lt)
      have HFS := Lib.hid (show ((sortR l).take (i + 1)).filter (fun x => inB r x.key) = ((sortR l).take i).filter (fun x => inB r x.key) ++ (if inB r x.key then [x] else []) by
        rw [List.take_succ_eq_append_getElem hil, List.filter_append, ← hx]
        congr 1
        rw [List.filter_cons]
        cases inB r x.key <;> rfl)
      have hgA6 := hgA
      clear hrg hx hgA
      subst hA
      go_wp2_with fail
      refine wp_region_mix [(0, true), (1, true), (2, true), (3, true), (4, true), (5, true), (6, false)] (Behind wr)
        (by kernel_rfl) (by kernel_rfl) (fun _ _ d _ _ h => by cases d <;> exact h) (by kernel_rfl) (by decide) (Below.refl _ _).drew ?_
      have hz0 : Behind wr wr.drew := (Below.refl _ _).drew
      repeat (
        refine wpMix_q (by with_unfolding_all rfl) (by kernel_rfl) ?_
        first
          | go_big_quiet_skip
          | ((with_reducible refine wpQuiet_loadAll (by with_unfolding_all rfl) 26 _ (by with_unfolding_all rfl) g2 (0) (by with_unfolding_all rfl) (encG r) _ (fun w h => (HSR.out w h).all) Tryd.underlying26 (by with_unfolding_all rfl) (HLG.out _) ?_); simp only [Act.put, List.setIfInBounds_toArray, List.set_cons_zero, List.set_cons_succ])
          | ((with_reducible refine wpQuiet_loadAll (by with_unfolding_all rfl) 24 _ (by with_unfolding_all rfl) gA (off + i * 65) (by with_unfolding_all rfl) (u8s x.key) _ (fun w h => HKX.out w h) HUD.out (by with_unfolding_all rfl) (HDG.out _ x.hk) ?_); simp only [Act.put, List.setIfInBounds_toArray, List.set_cons_zero, List.set_cons_succ])
          | (go_big_quiet_step (exact fun _ => rfl))
        refine wpMix_qnil ?_)
      have HINX := Lib.hid (HIN.out x)
      cases hb : inB r x.key with
      | true =>
        rw [hb] at HINX
        rw [hb, if_pos rfl] at HFS
        clear hb
        refine mix_callv 30 [.agg (encG r).toArray, .agg (u8s x.key).toArray] (.bool true) (by with_unfolding_all rfl) (by with_unfolding_all rfl) (by with_unfolding_all rfl) ((HINX.out _).mono (fun e w' ⟨he, hb⟩ => ⟨he, Behind.trans' hz0 hb⟩)) ?_
        intro z1 hz1
        simp only [Act.put, List.setIfInBounds_toArray, List.set_cons_zero, List.set_cons_succ]
        refine wpMix_nil ?_
        have HQ1 := Lib.hid (show Behind wr z1 from hz1)
        have HB1 := Lib.hid (show Below w0.heap.size w0 z1 from Behind.tr HQW.out hz1)
        have HE1 := Lib.hid (HE6.out.up hz1)
        have HO1 := Lib.hid (HO.out.below hz1)
        have HX1 := Lib.hid (HRX.out _ hz1)
        have hzs := Below.size hz1
        have hbs1 := HB1.out.size
        clear hz0 hz1
        go_wp2_with (first
          | (with_reducible refine wpList_loadW (by with_unfolding_all rfl) 38 (.tmp 27) rfl gA (off + i * 65) (by with_unfolding_all rfl) (encR x) _ HX1.out Tryd.underlying38 (by with_unfolding_all rfl) (HLR.out x) ?_)
          | ((with_reducible refine wpList_one rfl 22 38 65 x (.tmp 28) rfl (by with_unfolding_all rfl) Tryd.underlying22 info2Rec (by decide) (by decide) (encR_len x) ?_); intro g29 u1 hg hb hE; have HEO29 := Lib.hid hE; have HBO29 := Lib.hid hb; clear hg hb hE)
          | (at_builtin; refine wpList_append_enc (enc := encR) (k := 65) rfl rfl (.tmp 24) (.tmp 29) 22 38 72 rfl _ Tryd.underlying22 info3Rec rfl (by decide) w0.heap.size v (K) (((sortR l).take i).filter fun x => inB r x.key) [x] rfl (HO1.out.below HBO29.out) (fun _ _ => encR_len _) (fun _ _ => encR_one _) (some ⟨g29, 0, none⟩) 1 1 rfl rfl HEO29.out (by unfold maxLen; simp; omega) (by simp; omega) (Nat.le_trans hbs1 HBO29.out.size) ?_; intro v7 u2 hO7 hg7 hob; have hbx := own_below2 (HO1.out.below HBO29.out) (Below.trans HB1.out (HBO29.out.mono HB1.out.size)) (Nat.le_refl _) (Nat.le_trans hbs1 HBO29.out.size) hg7; have HOv7 := Lib.hid hO7; have HBv7 := Lib.hid hbx; have HQv7 := Lib.hid (show Behind w0 u2 from hbx); have HEv7 := Lib.hid ((HE1.out.up HBO29.out).grown hg7 (fun g o e e2 => HN6.out g o e2.symm e)); have HNv7 := Lib.hid (show ∀ g o, v7.ownBlock = some g → some ⟨gA, off, none⟩ ≠ some (⟨g, o, none⟩ : Addr) from fun g o hg e => hob.elim (fun h => HN6.out g o (h ▸ hg) e) (fun h => by (rw [h] at hg; injection hg with hg; injection e with e; injection e with e1; have := HBO29.out.size; omega))); clear hO7 hg7 hbx hob))
        go_roundg (M - (i + 1))
        case measure => omega
        case rel => exact ⟨i + 1, K + 1, v7, rfl, by go_num, by omega, Nat.le_refl _, by omega, (show Hid _ from (by rw [HFS.out, List.length_append, HK.out]; rfl)), (show Hid _ from (by rw [HFS.out]; exact HOv7.out)), HBv7.out, HEv7.out, HNv7.out⟩
      | false =>
        rw [hb] at HINX
        rw [hb, if_neg (by simp), List.append_nil] at HFS
        clear hb
        refine mix_callv 30 [.agg (encG r).toArray, .agg (u8s x.key).toArray] (.bool false) (by with_unfolding_all rfl) (by with_unfolding_all rfl) (by with_unfolding_all rfl) ((HINX.out _).mono (fun e w' ⟨he, hb⟩ => ⟨he, Behind.trans' hz0 hb⟩)) ?_
        intro z1 hz1
        simp only [Act.put, List.setIfInBounds_toArray, List.set_cons_zero, List.set_cons_succ]
        refine wpMix_nil ?_
        have HB1 := Lib.hid (show Below w0.heap.size w0 z1 from Behind.tr HQW.out hz1)
        have HE1 := Lib.hid (HE6.out.up hz1)
        have HO1 := Lib.hid (HO.out.below hz1)
        clear hz0 hz1
        go_wp2_with fail
        go_roundg (M - (i + 1))
        case measure => omega
        case rel => exact ⟨i + 1, K, v, rfl, by go_num, by omega, Nat.le_refl _, by omega, (show Hid _ from (by rw [HFS.out]; exact HK.out)), (show Hid _ from (by rw [HFS.out]; exact HO1.out)), HB1.out, HE1.out, HN6.out⟩
    · have hiM : i = M := by omega
      have hltz : ¬ (i : Int) < (M : Int) := by omega
      have htk : ((sortR l).take i).filter (fun x => inB r x.key) = itemsR r l := by
        rw [List.take_of_length_le (by have := HM.out; omega)]
        rfl
      have hO := HO.out
      have hK := HK.out
      rw [htk] at hO hK
      obtain ⟨A3, c3, rfl, hc3, hE3⟩ := hO.rows hK (fun x _ => encR_len x)
      have HE3 := Lib.hid hE3
      have hKN : K = N := by rw [hK, HN.out]
      clear hO hE3 hK htk hiM
      subst hKN
      go_wp2_with fail
      go_ret
      exact ⟨A3, c3, rfl, hc3, HE3.out, HB0.out.trans (Below.mono HBW.out HB0.out.size)⟩
end Go.Proofs.YtefbllhpibfojaaDoor
