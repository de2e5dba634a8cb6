/- GleanSame: the walk. -/
import Derived.Test.YtefbllhpibfojaaDoorGsmPM
namespace Go.Proofs.YtefbllhpibfojaaDoor
open Go.Proofs Stab Go.Shelf Go.RowKit Go.Lib Go.Sort

theorem Behind.trB {a b c : World} (h : Behind a b) (k : Behind b c) : Behind a c := Below.trans h (Below.mono k (Below.size h))
theorem wpList_none16 {α : Type} {enc : α → List Value} {P : Program} {ops : Array Oper} {Q : Exit → Act → World → Prop} {rest : List Oper} {o : Oper} {a : Act} {w : World} {t e k : Nat} (hw : Region.wanted o (yielded ops a.tmps) = true) (ho : o.op = .buildSlice t 0 #[]) (hu : P.underlying t = some (.slice e)) (hz : ∀ w, (Go.sizeOf e).run P w = .ok k w)
    (h : ∀ g w', g = w.heap.size → w'.heap.size = w.heap.size + 1 → Own w' g e k (.slice (some ⟨g, 0, none⟩) 0 0) 0 (([] : List α).flatMap enc) → Below w.heap.size w w' → wpList P ops Q rest (a.put o.dst (.slice (some ⟨g, 0, none⟩) 0 0)) w') : wpList P ops Q (o :: rest) a w :=
  wpList_to _ _ hw (exec_none ho hu hz w) (h _ _ rfl (by simp) (own_none (k := k) (enc := enc) w e (base := w.heap.size) (Nat.le_refl _)) ((Below.refl _ _).alloc (Nat.le_refl _) _))
set_option maxRecDepth 100000 in
set_option maxHeartbeats 8000000 in
theorem gsame_any (A0 : Option Addr) (c0 : Nat) (a : List Rng) (A2 : Option Addr) (c2 : Nat) (l : List Rec) (w : World)
    (hE0 : EncIn encG 35 w A0 a) (hc0 : a.length ≤ c0) (hm0 : c0 ≤ maxLen) (_ : A0 = none → c0 = 0) (hE2 : EncIn encR 65 w A2 l) (_ : l.length ≤ c2) (hm2 : c2 ≤ maxLen) (_ : A2 = none → c2 = 0) (hwd : Tab w 0 (u32s Sha.words)) :
    Calls Tryd.prog 11 #[.slice A0 a.length c0, .slice A2 l.length c2] w fun e w' => e = .returned (.bool true) ∧ Below w.heap.size w w' := by
  have hn0 : a.length ≤ 9223372036854775807 := by unfold maxLen at hm0; omega
  have hn2 : l.length ≤ 9223372036854775807 := by unfold maxLen at hm2; omega
  have HE0 := Lib.hid hE0
  have HE2 := Lib.hid hE2
  have HC0 := Lib.hid hc0
  have HLR := Lib.hid (show ∀ x, (Tryd.prog.info? 38).map (·.size) = some (encR x).length from fun x => by rw [encR_len]; exact infoRec)
  have HLG := Lib.hid (show ∀ x, (Tryd.prog.info? 26).map (·.size) = some (encG x).length from fun x => by rw [encG_len]; exact infoRng)
  have HLL := Lib.hid (show ∀ x y, (encG x).length = (encG y).length from fun x y => by rw [encG_len, encG_len])
  have HUD := Lib.hid Tryd.underlying24
  have HDG := Lib.hid (show ∀ l : List UInt8, l.length = 32 → (Tryd.prog.info? 24).map (·.size) = some (u8s l).length from fun l hl => by rw [u8s_length, hl]; exact infoDg)
  have HAW := Lib.hid (awake16_any w hwd)
  have HW := Lib.hid (show ∀ W, Below w.heap.size w W → Tab W 0 (u32s Sha.words) from fun W h => hwd.below h hwd.lt)
  clear hE0 hE2 hm0 hm2 hwd
  obtain ⟨na, hna⟩ : ∃ n, n = a.length := ⟨_, rfl⟩
  obtain ⟨n, hn⟩ : ∃ n, n = l.length := ⟨_, rfl⟩
  rw [← hna] at hn0 hc0 HC0 ⊢
  rw [← hn] at hn2 ⊢
  have HNA := Lib.hid hna
  have HN := Lib.hid hn
  clear hna hn hc0
  go_enter Tryd.func11, Tryd.ntmps11
  go_upto_region 3 with (first
    | (go_at_call 31; (with_reducible refine Calls.mono HAW.out ?_); rintro e w1 ⟨rfl, hb⟩; have HB1 := Lib.hid (show Behind w w1 from hb); clear hb))
  by_cases h0 : 60 < na
  · have hz : (60 : Int) < (na : Int) := by omega
    go_wp2_with fail
    go_ret
    exact ⟨rfl, HB1.out⟩
  have hz0 : ¬ (60 : Int) < (na : Int) := by omega
  by_cases h2 : 60 < n
  · have hz : (60 : Int) < (n : Int) := by omega
    go_wp2_with fail
    go_ret
    exact ⟨rfl, HB1.out⟩
  have hz2 : ¬ (60 : Int) < (n : Int) := by omega
  have hwd1 := Lib.hid (show ∀ W, Behind w1 W → Tab W 0 (u32s Sha.words) from fun W h => HW.out W (Behind.trB HB1.out h))
  have HS0 := Lib.hid (show ∀ W, Behind w1 W → EncIn encG 35 W A0 a from fun W h => HE0.out.up (Behind.trB HB1.out h))
  have HS2 := Lib.hid (show ∀ W, Behind w1 W → EncIn encR 65 W A2 l from fun W h => HE2.out.up (Behind.trB HB1.out h))
  have HOF := Lib.hid (show ∀ (r : Rng) (z : Rng) (e0 : Int), z = ofz r l → e0 = ofe r → ∀ W, Behind w1 W → Calls Tryd.prog 15 #[.int .i64 r.depth, .int .i64 r.pref, .slice A2 n c2] W fun e w' => e = .returned (.tuple #[.agg (encG z).toArray, .int .i64 e0]) ∧ Below W.heap.size W w' from fun r z e0 hz he W hW => of_both r A2 c2 n l W HN.out (HS2.out W hW) (by omega) (hwd1.out W hW) z hz e0 he)
  go_upto_region 6 with (first
    | ((with_reducible refine wpList_none16 (α := Rng) (enc := encG) (k := 35) rfl rfl Tryd.underlying45 sizeRng ?_); intro g5 w2 hg hs hO hb; have HO5 := Lib.hid hO; have HB2 := Lib.hid (show Behind w1 w2 from hb); have HG5 := Lib.hid (show w1.heap.size ≤ g5 ∧ g5 < w2.heap.size by omega); clear hg hs hO hb))
  obtain ⟨v5, hv5⟩ : ∃ v, v = Value.slice (some ⟨g5, 0, none⟩) 0 0 := ⟨_, rfl⟩
  rw [← hv5] at HO5 ⊢
  clear hv5
  go_wp2_with fail
  go_loopg [5, 6] na (fun gg s5 s6 wr => ∃ (i N : Nat) (v : Value) (S : List Rng), v = s5 ∧ s6 = .int .i64 i ∧ i ≤ na ∧ na - i ≤ gg ∧ N ≤ i ∧ Hid (N = S.length) ∧ Hid (S = ownS (a.take i) l) ∧ Hid (Own wr g5 26 35 v N (S.flatMap encG)) ∧ Hid (Behind w1 wr) ∧ Hid (g5 ≤ wr.heap.size))
  case atStart => exact ⟨0, 0, v5, [], rfl, rfl, Nat.zero_le _, by omega, Nat.le_refl _, (show Hid _ from (rfl : 0 = ([] : List Rng).length)), (show Hid _ from (rfl : [] = ownS (a.take 0) l)), HO5.out, HB2.out, (show Hid _ from Nat.le_of_lt HG5.out.2)⟩
  case round =>
    obtain ⟨i, N, v, S, hv, rfl, hi, hgg, hNi, HNS, HS, HO, HQ, HGL⟩ := hrel
    subst hv
    generalize wr = wo at *
    by_cases hlt : i < na
    · have hltz : (i : Int) < (na : Int) := by omega
      have i0 : (0 : Int) ≤ (i : Int) := by omega
      have hil : i < a.length := by have := HNA.out; omega
      obtain ⟨gX, oX, hAX, hgX, hrX⟩ := (HS0.out wo HQ.out).at hil
      obtain ⟨x, hx⟩ : ∃ x, x = a[i] := ⟨_, rfl⟩
      have hsn := ownS_snoc a l i hil
      rw [← hx] at hsn hrX
      obtain ⟨z, hz⟩ : ∃ z, z = ofz x l := ⟨_, rfl⟩
      obtain ⟨e0, he0⟩ : ∃ e, e = ofe x := ⟨_, rfl⟩
      have HCALL := Lib.hid (show ∀ W, Behind wo W → Calls Tryd.prog 15 #[.int .i64 x.depth, .int .i64 x.pref, .slice A2 n c2] W fun e w' => e = .returned (.tuple #[.agg (encG z).toArray, .int .i64 e0]) ∧ Below W.heap.size W w' from fun W hW => HOF.out x z e0 hz he0 W (Behind.trB HQ.out hW))
      have HX0 := Lib.hid (show ∀ W, Behind wo W → W.cell? ⟨gX, oX + i * 35, none⟩ = some (.int .i64 x.depth) from fun W h => range_below' hrX h hgX 0 _ rfl)
      have HX1 := Lib.hid (show ∀ W, Behind wo W → W.cell? ⟨gX, oX + i * 35 + 1, none⟩ = some (.int .i64 x.pref) from fun W h => range_below' hrX h hgX 1 _ rfl)
      have HSN := Lib.hid hsn
      have HZ := Lib.hid hz
      have HE := Lib.hid he0
      clear hrX hx hsn hgX hz he0
      subst hAX
      have HOup := Lib.hid (show ∀ W, Behind wo W → Own W g5 26 35 v N (S.flatMap encG) from fun W h => HO.out.below h)
      go_wp2_with fail
      refine wp_region_mixA 15 _ [(0, true), (1, true), (2, true), (3, true), (4, true), (5, true), (6, true), (7, true), (8, true), (9, true), (10, true), (11, false), (12, true), (13, true), (14, true)] [(16, false), (17, true)] (Behind wo) wo.heap.size 26 (encG default) (by rfl) (fun _ => rfl) (fun _ w => exec_rng rfl w) (fun _ _ h hb => behind_up16 h hb) (fun _ h => h.size) (by kernel_rfl) (by kernel_rfl) (fun _ _ d _ _ h => by cases d <;> exact h) (by kernel_rfl) (by kernel_rfl) (by decide) (Below.refl _ _).drew ?_
      repeat (
        refine wpMixU_q (by with_unfolding_all rfl) (by kernel_rfl) ?_
        first
          | go_big_quiet_skip
          | ((with_reducible refine wpQuiet_load1 (.int .i64 x.depth) (by with_unfolding_all rfl) 3 _ (by with_unfolding_all rfl) .i64 Tryd.underlying3 gX (oX + i * 35) (by with_unfolding_all rfl) (fun w h => HX0.out w h) ?_); simp only [Act.put, List.setIfInBounds_toArray, List.set_cons_zero, List.set_cons_succ])
          | ((with_reducible refine wpQuiet_load1 (.int .i64 x.pref) (by with_unfolding_all rfl) 3 _ (by with_unfolding_all rfl) .i64 Tryd.underlying3 gX (oX + i * 35 + 1) (by with_unfolding_all rfl) (fun w h => HX1.out w h) ?_); simp only [Act.put, List.setIfInBounds_toArray, List.set_cons_zero, List.set_cons_succ])
          | (go_big_quiet_step (exact fun _ => rfl))
        refine wpMixU_qnil ?_)
      refine wpMixU_call 15 [.int .i64 x.depth, .int .i64 x.pref, .slice A2 n c2] (.tuple #[.agg (encG z).toArray, .int .i64 e0]) (by with_unfolding_all rfl) (by with_unfolding_all rfl) (fun _ => by with_unfolding_all rfl) (fun w hS _ => HCALL.out w hS) ?_
      simp only [Act.put, List.setIfInBounds_toArray, List.set_cons_zero, List.set_cons_succ]
      repeat (
        refine wpMixU_q (by with_unfolding_all rfl) (by kernel_rfl) ?_
        first
          | go_big_quiet_skip
          | (go_big_quiet_step (exact fun _ => rfl))
        refine wpMixU_qnil ?_)
      intro u wc hS' hF hM
      obtain ⟨g7, rfl, hq, hat⟩ := hM
      simp only [Act.put, List.setIfInBounds_toArray, List.set_cons_zero, List.set_cons_succ]
      refine wpMix_storeAll16 (by with_unfolding_all rfl) (by with_unfolding_all rfl) 26 _ _ (by with_unfolding_all rfl) g7 (by with_unfolding_all rfl) 26 (encG default) (encG z) hat (by with_unfolding_all rfl) (HLL.out _ _) (HLG.out z) (encG_one z) (fun w' hg => made_grown16 hS' hq hg) ?_
      intro z1 hat1 hg1 hb1
      simp only [Act.put]
      repeat (
        refine wpMix_q (by with_unfolding_all rfl) (by kernel_rfl) ?_
        first
          | go_big_quiet_skip
          | (go_big_quiet_step (exact fun _ => rfl))
        refine wpMix_qnil ?_)
      refine wpMix_nil ?_
      have HQ3 := Lib.hid (show Behind wo z1 from hb1)
      have HAT7 := Lib.hid hat1
      clear hS' hF hq hat hat1 hg1 hb1 wc
      have HOz := Lib.hid (HOup.out z1 HQ3.out)
      have HQz := Lib.hid (Behind.trB HQ.out HQ3.out)
      have hgz : g5 ≤ z1.heap.size := Nat.le_trans HGL.out HQ3.out.size
      by_cases hp : placeB x.depth x.pref = true
      · have he : e0 = 0 := by rw [HE.out]; unfold ofe; rw [if_pos hp]
        have HNX := Lib.hid (show S ++ [z] = ownS (a.take (i + 1)) l by rw [HSN.out, ← HS.out, if_pos hp, HZ.out]; unfold ofz; rw [if_pos hp])
        subst he
        clear hp
        go_wp2_with (first
          | (with_reducible refine wpList_loadAll rfl 26 (.tmp 7) rfl g7 rfl _ _ _ (HAT7.out) Tryd.underlying26 rfl (HLG.out _) ?_)
          | ((with_reducible refine wpList_one rfl 45 26 35 z (.tmp 55) rfl (by with_unfolding_all rfl) Tryd.underlying45 info2Rng (by decide) (by decide) (encG_len z) ?_); intro g56 wj hg hb hE; have HEO := Lib.hid hE; have HOj := Lib.hid (HOz.out.below hb); have HBj := Lib.hid (show Behind z1 wj from hb); have hgj : g5 ≤ wj.heap.size := Nat.le_trans hgz hb.size; clear hg hb hE)
          | (at_builtin; refine wpList_append_enc (enc := encG) (k := 35) rfl rfl (.tmp 54) (.tmp 56) 45 26 56 rfl _ Tryd.underlying45 info3Rng rfl (by decide) g5 v N S ([z]) rfl HOj.out (fun _ _ => encG_len _) (fun _ _ => encG_one _) (some ⟨g56, 0, none⟩) 1 1 rfl (show 1 = [z].length from rfl) HEO.out (by unfold maxLen; simp; omega) (by simp; omega) hgj ?_; intro v6 wk hO7 hg7 hob; have HO7 := Lib.hid hO7; have HB7 := Lib.hid (show Behind w1 wk from own_below2 HOj.out (Behind.trB HQz.out HBj.out) HG5.out.1 (Nat.le_trans HG5.out.1 hgj) hg7); have hgk : g5 ≤ wk.heap.size := Nat.le_trans hgj hg7.size; clear hO7 hg7 hob))
        go_roundg (na - (i + 1))
        case measure => omega
        case rel => exact ⟨i + 1, N + 1, v6, S ++ [z], rfl, by go_num, by omega, Nat.le_refl _, by omega, (show Hid _ from (by rw [List.length_append, ← HNS.out]; rfl)), HNX.out, HO7.out, HB7.out, (show Hid _ from hgk)⟩
      · have he : e0 = 1 := by rw [HE.out]; unfold ofe; rw [if_neg hp]
        have HNX := Lib.hid (show S = ownS (a.take (i + 1)) l by rw [HSN.out, ← HS.out, if_neg hp, List.append_nil])
        subst he
        clear hp
        go_wp2_with fail
        go_roundg (na - (i + 1))
        case measure => omega
        case rel => exact ⟨i + 1, N, v, S, rfl, by go_num, by omega, Nat.le_refl _, by omega, HNS.out, HNX.out, HOz.out, HQz.out, (show Hid _ from hgz)⟩
    · have hltz : ¬ (i : Int) < (na : Int) := by omega
      have hin : i = na := by omega
      have HSe := Lib.hid (show S = ownS a l by rw [HS.out, List.take_of_length_le (by have := HNA.out; omega)])
      obtain ⟨A5, c5, hv, hc5, hE5⟩ := HO.out.rows HNS.out (fun x _ => encG_len x)
      have HE5 := Lib.hid hE5
      subst hv
      have hN60 : N ≤ 60 := by omega
      have HANS := Lib.hid (show ∀ W, Behind wo W → Calls Tryd.prog 32 #[.slice A5 N c5, .slice A2 n c2] W fun e w' => ∃ A4 A5 A6 c4 c5 c6, e = .returned (.tuple #[.slice A4 0 c4, .slice A5 0 c5, .slice A6 0 c6]) ∧ Below W.heap.size W w' from fun W hW => (answer_any A5 c5 N S A2 c2 n l W HNS.out hc5 (HE5.out.up hW) (by omega) HN.out (HS2.out W (Behind.trB HQ.out hW)) (by omega) (hwd1.out W (Behind.trB HQ.out hW)) [] [] [] (by rw [HSe.out, own_same]; rfl) (by rw [HSe.out, own_same]; rfl) (by rw [HSe.out, own_same]; rfl) 0 0 0 rfl rfl rfl).mono fun e w' ⟨A4, A5, A6, c4, c5, c6, he, _, _, _, _, _, _, hb⟩ => ⟨A4, A5, A6, c4, c5, c6, he, hb⟩)
      obtain ⟨X, hX⟩ : ∃ X, (foldA a l).1.take 16 = X := ⟨_, rfl⟩
      obtain ⟨Y, hY⟩ : ∃ Y, (foldA a l).2.1.take 16 = Y := ⟨_, rfl⟩
      obtain ⟨Z, hZ⟩ : ∃ Z, (foldA a l).2.2.take 16 = Z := ⟨_, rfl⟩
      obtain ⟨M4, h4⟩ : ∃ M, M = X.length := ⟨_, rfl⟩
      obtain ⟨M5, h5⟩ : ∃ M, M = Y.length := ⟨_, rfl⟩
      obtain ⟨M6, h6⟩ : ∃ M, M = Z.length := ⟨_, rfl⟩
      have b4 : M4 ≤ 16 := by rw [h4, ← hX, List.length_take]; omega
      have b5 : M5 ≤ 16 := by rw [h5, ← hY, List.length_take]; omega
      have b6 : M6 ≤ 16 := by rw [h6, ← hZ, List.length_take]; omega
      have b4z : ¬ (16 : Int) < (M4 : Int) := by omega
      have b5z : ¬ (16 : Int) < (M5 : Int) := by omega
      have b6z : ¬ (16 : Int) < (M6 : Int) := by omega
      have HANT := Lib.hid (show ∀ W, Behind w1 W → Calls Tryd.prog 32 #[.slice A0 na c0, .slice A2 n c2] W fun e w' => ∃ A4 A5 A6 c4 c5 c6, e = .returned (.tuple #[.slice A4 M4 c4, .slice A5 M5 c5, .slice A6 M6 c6]) ∧ EncIn encG 35 w' A4 X ∧ EncIn encR 65 w' A5 Y ∧ EncIn encG 35 w' A6 Z ∧ M4 ≤ c4 ∧ M5 ≤ c5 ∧ M6 ≤ c6 ∧ Below W.heap.size W w' from fun W hW => answer_any A0 c0 na a A2 c2 n l W HNA.out HC0.out (HS0.out W hW) (by omega) HN.out (HS2.out W hW) (by omega) (hwd1.out W hW) X Y Z hX hY hZ M4 M5 M6 h4 h5 h6)
      have HXX := Lib.hid (And.intro hX h4)
      have HYY := Lib.hid (And.intro hY h5)
      clear hX hY hZ h4 h5 h6 hin hgg hi
      go_upto_region 18 with (first
        | (go_at_call 32; (with_reducible refine Calls.mono (HANS.out _ (Behind.refl _)) ?_); rintro e w4 ⟨B4, B5, B6, d4, d5, d6, rfl, hb⟩; have HB4 := Lib.hid (show Behind w1 w4 from Behind.trB HQ.out hb); clear hb)
        | (go_at_call 32; (with_reducible refine Calls.mono (HANT.out _ HB4.out) ?_); rintro e w5 ⟨A7, A8, A9, c7, c8, c9, rfl, hx, hy, _, _, _, _, hb⟩; have HE7 := Lib.hid hx; have HE8 := Lib.hid hy; have HB5 := Lib.hid (show Behind w1 w5 from Behind.trB HB4.out hb); clear hx hy hb))
      have HS4 := Lib.hid (show ∀ W, Behind w5 W → EncIn encG 35 W A7 X from fun W h => HE7.out.up h)
      have HS5 := Lib.hid (show ∀ W, Behind w5 W → EncIn encR 65 W A8 Y from fun W h => HE8.out.up h)
      have HQ5 := Lib.hid (show Behind w1 w5 from HB5.out)
      clear HE5 HSe HANS HANT HE7 HE8 HO HGL
      go_wp2_with fail
      go_loopg [12] M5 (fun gg s8 wr => ∃ i : Nat, s8 = .int .i64 i ∧ i ≤ M5 ∧ M5 - i ≤ gg ∧ Hid (Behind w5 wr))
      case atStart => exact ⟨0, rfl, Nat.zero_le _, by omega, Behind.refl _⟩
      case round =>
        obtain ⟨i, rfl, hi, hgg, HQ⟩ := hrel
        generalize wr = wo at *
        by_cases hlt : i < M5
        · have hltz : (i : Int) < (M5 : Int) := by omega
          have i0 : (0 : Int) ≤ (i : Int) := by omega
          have hil : i < Y.length := by have := HYY.out.2; omega
          obtain ⟨gX, oX, hAX, hgX, hrX⟩ := (HS5.out w5 (Behind.refl _)).at hil
          obtain ⟨x, hx⟩ : ∃ x, x = Y[i] := ⟨_, rfl⟩
          have hmem : x ∈ (foldA a l).2.1.take 16 := by rw [HYY.out.1, hx]; exact List.getElem_mem hil
          have hgv := says_items hmem
          rw [← hx] at hrX
          have HRX := Lib.hid (show ∀ W, Behind w5 W → W.rangeAt gX (oX + i * 65) (encR x) from fun W h => range_below' hrX h hgX)
          have HGV := Lib.hid hgv
          clear hrX hx hmem hgv hgX
          subst hAX
          go_upto_region 23 with fail
          go_loopg [13, 14] n (fun gg s9 s10 wr => ∃ (k : Nat) (b : Bool), s10 = .int .i64 k ∧ s9 = .bool b ∧ k ≤ n ∧ n - k ≤ gg ∧ Hid (b = (l.take k).any fun y => decide (y = x)) ∧ Hid (Behind w5 wr))
          case atStart => exact ⟨0, false, rfl, rfl, Nat.zero_le _, by omega, (show Hid _ from (rfl : false = (l.take 0).any fun y => decide (y = x))), HQ.out⟩
          case round =>
            obtain ⟨k, b, rfl, rfl, hk, hkk, HA, HQ1⟩ := hrel
            have HX := Lib.hid (show ∀ W, Behind wr W → W.rangeAt gX (oX + i * 65) (encR x) from fun W h => HRX.out W (Behind.trB HQ1.out h))
            by_cases hlk : k < n
            · have hlkz : (k : Int) < (n : Int) := by omega
              have k0 : (0 : Int) ≤ (k : Int) := by omega
              have hkl : k < l.length := by have := HN.out; omega
              obtain ⟨gY, oY, hAY, hgY, hrY⟩ := (HS2.out wr (Behind.trB HQ5.out HQ1.out)).at hkl
              obtain ⟨y, hy⟩ : ∃ y, y = l[k] := ⟨_, rfl⟩
              have hst : (l.take (k + 1)).any (fun y => decide (y = x)) = (b || decide (y = x)) := by
                rw [List.take_succ_eq_append_getElem hkl, List.any_append, ← HA.out, ← hy]
                simp
              rw [← hy] at hrY
              have HRY := Lib.hid (show ∀ W, Behind wr W → W.rangeAt gY (oY + k * 65) (encR y) from fun W h => range_below' hrY h hgY)
              have HST := Lib.hid hst
              clear hrY hy hst hgY
              cases b with
              | true =>
                go_wp2_with fail
                refine wp_region_class (Behind wr) (by kernel_rfl) (by kernel_rfl) (Below.refl _ _).drew ?_
                iterate 13 (first
                  | go_big_quiet_skip
                  | (go_big_quiet_step (exact fun _ => rfl)))
                with_reducible refine wpQuiet_nil ?_
                intro w3 hw3
                have HQ3 := Lib.hid (show Behind wr w3 from hw3)
                clear hw3
                go_wp2_with fail
                go_roundg (n - (k + 1))
                case measure => omega
                case rel => exact ⟨k + 1, true, by go_num, rfl, by omega, Nat.le_refl _, (show Hid _ from (by rw [HST.out]; rfl)), Behind.trB HQ1.out HQ3.out⟩
              | false =>
                obtain ⟨eq, heq⟩ : ∃ e, e = decide (y = x) := ⟨_, rfl⟩
                have HQY := Lib.hid (show ∀ w, (binOp .eql 38 (.agg (encR y).toArray) (.agg (encR x).toArray)).run Tryd.prog w = .ok (.bool eq) w from fun w => by rw [heq]; exact run_eql_rec w y x)
                have HEQ := Lib.hid heq
                clear heq
                subst hAY
                go_wp2_with fail
                refine wp_region_class (Behind wr) (by kernel_rfl) (by kernel_rfl) (Below.refl _ _).drew ?_
                iterate 13 (first
                  | go_big_quiet_skip
                  | ((with_reducible refine wpQuiet_loadAll (by with_unfolding_all rfl) 38 _ (by with_unfolding_all rfl) gX (oX + i * 65) (by with_unfolding_all rfl) (encR x) _ (fun w h => HX.out w h) Tryd.underlying38 (by with_unfolding_all rfl) (HLR.out x) ?_); simp only [Act.put, List.setIfInBounds_toArray, List.set_cons_zero, List.set_cons_succ])
                  | ((with_reducible refine wpQuiet_loadAll (by with_unfolding_all rfl) 38 _ (by with_unfolding_all rfl) gY (oY + k * 65) (by with_unfolding_all rfl) (encR y) _ (fun w h => HRY.out w h) Tryd.underlying38 (by with_unfolding_all rfl) (HLR.out y) ?_); simp only [Act.put, List.setIfInBounds_toArray, List.set_cons_zero, List.set_cons_succ])
                  | ((with_reducible refine wpQuiet_bin (by with_unfolding_all rfl) .eql 38 _ _ _ (by with_unfolding_all rfl) (.agg (encR y).toArray) (.agg (encR x).toArray) (.bool eq) (by with_unfolding_all rfl) (by with_unfolding_all rfl) (fun w => run_eqGuard_rec w _ _ _ _ _) HQY.out ?_); simp only [Act.put, List.setIfInBounds_toArray, List.set_cons_zero, List.set_cons_succ])
                  | (go_big_quiet_step (exact fun _ => rfl)))
                with_reducible refine wpQuiet_nil ?_
                intro w3 hw3
                have HQ3 := Lib.hid (show Behind wr w3 from hw3)
                clear hw3
                go_wp2_with fail
                go_roundg (n - (k + 1))
                case measure => omega
                case rel => exact ⟨k + 1, eq, by go_num, rfl, by omega, Nat.le_refl _, (show Hid _ from (by rw [HST.out, HEQ.out]; rfl)), Behind.trB HQ1.out HQ3.out⟩
            · have hkn : k = n := by omega
              have hlkz : ¬ (k : Int) < (n : Int) := by omega
              have hb : b = true := by
                rw [HA.out, List.take_of_length_le (by have := HN.out; omega), List.any_eq_true]
                exact ⟨x, HGV.out.1, by simp⟩
              subst hb
              clear hkn HX hkk
              generalize wr = w1 at *
              go_upto_region 28 with fail
              go_loopg [15, 16] na (fun gg s9 s10 wr => ∃ (k : Nat) (b : Bool), s10 = .int .i64 k ∧ s9 = .bool b ∧ k ≤ na ∧ na - k ≤ gg ∧ Hid (b = (a.take k).any fun r => inB r x.key) ∧ Hid (Behind w5 wr))
              case atStart => exact ⟨0, false, rfl, rfl, Nat.zero_le _, by omega, (show Hid _ from (rfl : false = (a.take 0).any fun r => inB r x.key)), HQ1.out⟩
              case round =>
                obtain ⟨k2, b, rfl, rfl, hk2, hkk2, HA2, HQ2⟩ := hrel
                have HX := Lib.hid (show ∀ W, Behind wr W → W.rangeAt gX (oX + i * 65) (u8s x.key) from fun W h => rec_key (HRX.out W (Behind.trB HQ2.out h)))
                by_cases hlk2 : k2 < na
                · have hlkz2 : (k2 : Int) < (na : Int) := by omega
                  have k20 : (0 : Int) ≤ (k2 : Int) := by omega
                  have hkl2 : k2 < a.length := by have := HNA.out; omega
                  obtain ⟨gY, oY, hAY, hgY, hrY⟩ := (HS0.out wr (Behind.trB HQ5.out HQ2.out)).at hkl2
                  obtain ⟨y, hy⟩ : ∃ y, y = a[k2] := ⟨_, rfl⟩
                  have hst : (a.take (k2 + 1)).any (fun r => inB r x.key) = (b || inB y x.key) := by
                    rw [List.take_succ_eq_append_getElem hkl2, List.any_append, ← HA2.out, ← hy]
                    simp
                  rw [← hy] at hrY
                  have HRY := Lib.hid (show ∀ W, Behind wr W → W.rangeAt gY (oY + k2 * 35) (encG y) from fun W h => range_below' hrY h hgY)
                  have HST := Lib.hid hst
                  clear hrY hy hst hgY
                  cases b with
                  | true =>
                    go_wp2_with fail
                    refine wp_region_mix [(0, true), (1, true), (2, true), (3, true), (4, true), (5, true), (6, true), (7, true), (8, true), (9, true), (10, true), (11, false), (12, true), (13, true)] (Behind wr)
                      (by kernel_rfl) (by kernel_rfl) (fun _ _ d _ _ h => by cases d <;> exact h) (by kernel_rfl) (by decide) (Below.refl _ _).drew ?_
                    have hz0 : Behind wr wr.drew := (Below.refl _ _).drew
                    repeat (
                      refine wpMix_q (by with_unfolding_all rfl) (by kernel_rfl) ?_
                      first
                        | go_big_quiet_skip
                        | (go_big_quiet_step (exact fun _ => rfl))
                      refine wpMix_qnil ?_)
                    refine wpMix_skip (by with_unfolding_all rfl) (by with_unfolding_all rfl) hz0 ?_
                    simp only [Act.put, List.setIfInBounds_toArray, List.set_cons_zero, List.set_cons_succ]
                    repeat (
                      refine wpMix_q (by with_unfolding_all rfl) (by kernel_rfl) ?_
                      first
                        | go_big_quiet_skip
                        | (go_big_quiet_step (exact fun _ => rfl))
                      refine wpMix_qnil ?_)
                    refine wpMix_nil ?_
                    have hz1 : Behind wr wr.drew := hz0
                    generalize wr.drew = z1 at hz1 ⊢
                    have HQ3 := Lib.hid (show Behind wr z1 from hz1)
                    clear hz0 hz1
                    go_wp2_with fail
                    go_roundg (na - (k2 + 1))
                    case measure => omega
                    case rel => exact ⟨k2 + 1, true, by go_num, rfl, by omega, Nat.le_refl _, (show Hid _ from (by rw [HST.out]; rfl)), Behind.trB HQ2.out HQ3.out⟩
                  | false =>
                    obtain ⟨eq, heq⟩ : ∃ e, e = inB y x.key := ⟨_, rfl⟩
                    have HIN := Lib.hid (show ∀ W, Calls Tryd.prog 22 #[.agg (encG y).toArray, .agg (u8s x.key).toArray] W fun e w' => e = .returned (.bool eq) ∧ Below W.heap.size W w' from fun W => by rw [heq]; exact in_any y x.key x.hk W)
                    have HEQ := Lib.hid heq
                    clear heq
                    subst hAY
                    go_wp2_with fail
                    refine wp_region_mix [(0, true), (1, true), (2, true), (3, true), (4, true), (5, true), (6, true), (7, true), (8, true), (9, true), (10, true), (11, false), (12, true), (13, true)] (Behind wr)
                      (by kernel_rfl) (by kernel_rfl) (fun _ _ d _ _ h => by cases d <;> exact h) (by kernel_rfl) (by decide) (Below.refl _ _).drew ?_
                    have hz0 : Behind wr wr.drew := (Below.refl _ _).drew
                    repeat (
                      refine wpMix_q (by with_unfolding_all rfl) (by kernel_rfl) ?_
                      first
                        | go_big_quiet_skip
                        | ((with_reducible refine wpQuiet_loadAll (by with_unfolding_all rfl) 26 _ (by with_unfolding_all rfl) gY (oY + k2 * 35) (by with_unfolding_all rfl) (encG y) _ (fun w h => HRY.out w h) Tryd.underlying26 (by with_unfolding_all rfl) (HLG.out y) ?_); simp only [Act.put, List.setIfInBounds_toArray, List.set_cons_zero, List.set_cons_succ])
                        | ((with_reducible refine wpQuiet_loadAll (by with_unfolding_all rfl) 24 _ (by with_unfolding_all rfl) gX (oX + i * 65) (by with_unfolding_all rfl) (u8s x.key) _ (fun w h => HX.out w h) HUD.out (by with_unfolding_all rfl) (HDG.out _ x.hk) ?_); simp only [Act.put, List.setIfInBounds_toArray, List.set_cons_zero, List.set_cons_succ])
                        | (go_big_quiet_step (exact fun _ => rfl))
                      refine wpMix_qnil ?_)
                    refine mix_callv 22 [.agg (encG y).toArray, .agg (u8s x.key).toArray] (.bool eq) (by with_unfolding_all rfl) (by with_unfolding_all rfl) (by with_unfolding_all rfl) ((HIN.out _).mono (fun e w' ⟨he, hb⟩ => ⟨he, Behind.trans' hz0 hb⟩)) ?_
                    intro z1 hz1
                    simp only [Act.put, List.setIfInBounds_toArray, List.set_cons_zero, List.set_cons_succ]
                    repeat (
                      refine wpMix_q (by with_unfolding_all rfl) (by kernel_rfl) ?_
                      first
                        | go_big_quiet_skip
                        | (go_big_quiet_step (exact fun _ => rfl))
                      refine wpMix_qnil ?_)
                    refine wpMix_nil ?_
                    have HQ3 := Lib.hid (show Behind wr z1 from hz1)
                    clear hz0 hz1
                    go_wp2_with fail
                    go_roundg (na - (k2 + 1))
                    case measure => omega
                    case rel => exact ⟨k2 + 1, eq, by go_num, rfl, by omega, Nat.le_refl _, (show Hid _ from (by rw [HST.out, HEQ.out]; rfl)), Behind.trB HQ2.out HQ3.out⟩
                · have hkn : k2 = na := by omega
                  have hlkz2 : ¬ (k2 : Int) < (na : Int) := by omega
                  have hb : b = true := by
                    rw [HA2.out, List.take_of_length_le (by have := HNA.out; omega), List.any_eq_true]
                    exact HGV.out.2
                  subst hb
                  clear hkn HX hkk2
                  go_wp2_with fail
                  go_roundg (M5 - (i + 1))
                  case measure => omega
                  case rel => exact ⟨i + 1, by go_num, by omega, Nat.le_refl _, HQ2.out⟩
        · have hltz : ¬ (i : Int) < (M5 : Int) := by omega
          clear hgg hi hlt
          generalize wo = wm at *
          go_upto_region 33 with fail
          go_wp2_with fail
          go_loopg [17] M4 (fun gg s8 wr => ∃ i : Nat, s8 = .int .i64 i ∧ i ≤ M4 ∧ M4 - i ≤ gg ∧ Hid (Behind w5 wr))
          case atStart => exact ⟨0, rfl, Nat.zero_le _, by omega, HQ.out⟩
          case round =>
            obtain ⟨j, rfl, hj, hjj, HQ2⟩ := hrel
            generalize wr = wo at *
            by_cases hlj : j < M4
            · have hljz : (j : Int) < (M4 : Int) := by omega
              have j0 : (0 : Int) ≤ (j : Int) := by omega
              have hjl : j < X.length := by have := HXX.out.2; omega
              obtain ⟨gX, oX, hAX, hgX, hrX⟩ := (HS4.out w5 (Behind.refl _)).at hjl
              obtain ⟨x, hx⟩ : ∃ x, x = X[j] := ⟨_, rfl⟩
              have hmem : x ∈ (foldA a l).1.take 16 := by rw [HXX.out.1, hx]; exact List.getElem_mem hjl
              have hsay := says_sums (by have := HN.out; omega) hmem
              rw [← hx] at hrX
              have HCALL := Lib.hid (show ∀ W, Behind wo W → Calls Tryd.prog 15 #[.int .i64 x.depth, .int .i64 x.pref, .slice A2 n c2] W fun e w' => e = .returned (.tuple #[.agg (encG x).toArray, .int .i64 0]) ∧ Below W.heap.size W w' from fun W hW => HOF.out x x 0 hsay.1.symm hsay.2.symm W (Behind.trB HQ5.out (Behind.trB HQ2.out hW)))
              have hrY : ∀ W, Behind wo W → W.rangeAt gX (oX + j * 35) (encG x) := fun W h => range_below' hrX (Behind.trB HQ2.out h) hgX
              have HRX := Lib.hid hrY
              have HX0 := Lib.hid (show ∀ W, Behind wo W → W.cell? ⟨gX, oX + j * 35, none⟩ = some (.int .i64 x.depth) from fun W h => hrY W h 0 _ rfl)
              have HX1 := Lib.hid (show ∀ W, Behind wo W → W.cell? ⟨gX, oX + j * 35 + 1, none⟩ = some (.int .i64 x.pref) from fun W h => hrY W h 1 _ rfl)
              have HNQ := Lib.hid (show ∀ w, (binOp .neq 26 (.agg (encG x).toArray) (.agg (encG x).toArray)).run Tryd.prog w = .ok (.bool false) w from fun w => by have h := run_neq_rng w x x; rw [decide_eq_true rfl] at h; exact h)
              clear hrX hrY hx hmem hgX hsay
              subst hAX
              go_wp2_with fail
              refine wp_region_mixA 15 _ [(0, true), (1, true), (2, true), (3, true), (4, true), (5, true), (6, true), (7, true), (8, true), (9, true), (10, true), (11, false), (12, true), (13, true), (14, true)] [(16, false), (17, true)] (Behind wo) wo.heap.size 26 (encG default) (by rfl) (fun _ => rfl) (fun _ w => exec_rng rfl w) (fun _ _ h hb => behind_up16 h hb) (fun _ h => h.size) (by kernel_rfl) (by kernel_rfl) (fun _ _ d _ _ h => by cases d <;> exact h) (by kernel_rfl) (by kernel_rfl) (by decide) (Below.refl _ _).drew ?_
              repeat (
                refine wpMixU_q (by with_unfolding_all rfl) (by kernel_rfl) ?_
                first
                  | go_big_quiet_skip
                  | ((with_reducible refine wpQuiet_load1 (.int .i64 x.depth) (by with_unfolding_all rfl) 3 _ (by with_unfolding_all rfl) .i64 Tryd.underlying3 gX (oX + j * 35) (by with_unfolding_all rfl) (fun w h => HX0.out w h) ?_); simp only [Act.put, List.setIfInBounds_toArray, List.set_cons_zero, List.set_cons_succ])
                  | ((with_reducible refine wpQuiet_load1 (.int .i64 x.pref) (by with_unfolding_all rfl) 3 _ (by with_unfolding_all rfl) .i64 Tryd.underlying3 gX (oX + j * 35 + 1) (by with_unfolding_all rfl) (fun w h => HX1.out w h) ?_); simp only [Act.put, List.setIfInBounds_toArray, List.set_cons_zero, List.set_cons_succ])
                  | (go_big_quiet_step (exact fun _ => rfl))
                refine wpMixU_qnil ?_)
              refine wpMixU_call 15 [.int .i64 x.depth, .int .i64 x.pref, .slice A2 n c2] (.tuple #[.agg (encG x).toArray, .int .i64 0]) (by with_unfolding_all rfl) (by with_unfolding_all rfl) (fun _ => by with_unfolding_all rfl) (fun w hS _ => HCALL.out w hS) ?_
              simp only [Act.put, List.setIfInBounds_toArray, List.set_cons_zero, List.set_cons_succ]
              repeat (
                refine wpMixU_q (by with_unfolding_all rfl) (by kernel_rfl) ?_
                first
                  | go_big_quiet_skip
                  | (go_big_quiet_step (exact fun _ => rfl))
                refine wpMixU_qnil ?_)
              intro u wc hS' hF hM
              obtain ⟨g18, rfl, hq, hat⟩ := hM
              simp only [Act.put, List.setIfInBounds_toArray, List.set_cons_zero, List.set_cons_succ]
              refine wpMix_storeAll16 (by with_unfolding_all rfl) (by with_unfolding_all rfl) 26 _ _ (by with_unfolding_all rfl) g18 (by with_unfolding_all rfl) 26 (encG default) (encG x) hat (by with_unfolding_all rfl) (HLL.out _ _) (HLG.out x) (encG_one x) (fun w' hg => made_grown16 hS' hq hg) ?_
              intro z1 hat1 hg1 hb1
              simp only [Act.put]
              repeat (
                refine wpMix_q (by with_unfolding_all rfl) (by kernel_rfl) ?_
                first
                  | go_big_quiet_skip
                  | (go_big_quiet_step (exact fun _ => rfl))
                refine wpMix_qnil ?_)
              refine wpMix_nil ?_
              have HQ3 := Lib.hid (show Behind wo z1 from hb1)
              have HAT18 := Lib.hid hat1
              clear hS' hF hq hat hat1 hg1 hb1 wc
              have HS7 := Lib.hid (show ∀ W, Behind z1 W → W.rangeAt g18 0 (encG x) from fun W h => range_below' HAT18.out.all h HAT18.out.lt)
              have HSX := Lib.hid (show ∀ W, Behind z1 W → W.rangeAt gX (oX + j * 35) (encG x) from fun W h => HRX.out W (Behind.trB HQ3.out h))
              go_wp2_with fail
              refine wp_region_class (Behind z1) (by kernel_rfl) (by kernel_rfl) (Below.refl _ _).drew ?_
              iterate 10 (first
                | go_big_quiet_skip
                | ((with_reducible refine wpQuiet_loadAll (by with_unfolding_all rfl) 26 _ (by with_unfolding_all rfl) g18 (0) (by with_unfolding_all rfl) (encG x) _ (fun w h => HS7.out w h) Tryd.underlying26 (by with_unfolding_all rfl) (HLG.out x) ?_); simp only [Act.put, List.setIfInBounds_toArray, List.set_cons_zero, List.set_cons_succ])
                | ((with_reducible refine wpQuiet_loadAll (by with_unfolding_all rfl) 26 _ (by with_unfolding_all rfl) gX (oX + j * 35) (by with_unfolding_all rfl) (encG x) _ (fun w h => HSX.out w h) Tryd.underlying26 (by with_unfolding_all rfl) (HLG.out x) ?_); simp only [Act.put, List.setIfInBounds_toArray, List.set_cons_zero, List.set_cons_succ])
                | ((with_reducible refine wpQuiet_bin (by with_unfolding_all rfl) .neq 26 _ _ _ (by with_unfolding_all rfl) (.agg (encG x).toArray) (.agg (encG x).toArray) (.bool false) (by with_unfolding_all rfl) (by with_unfolding_all rfl) (fun w => run_eqGuard_rng w _ _ _ _ _) HNQ.out ?_); simp only [Act.put, List.setIfInBounds_toArray, List.set_cons_zero, List.set_cons_succ])
                | (go_big_quiet_step (exact fun _ => rfl)))
              with_reducible refine wpQuiet_nil ?_
              intro w3 hw3
              have HQ4 := Lib.hid (show Behind z1 w3 from hw3)
              clear hw3
              go_wp2_with fail
              go_roundg (M4 - (j + 1))
              case measure => omega
              case rel => exact ⟨j + 1, by go_num, by omega, Nat.le_refl _, Behind.trB HQ2.out (Behind.trB HQ3.out HQ4.out)⟩
            · have hljz : ¬ (j : Int) < (M4 : Int) := by omega
              go_wp2_with fail
              go_ret
              exact ⟨rfl, Behind.trB HB1.out (Behind.trB HQ5.out HQ2.out)⟩
end Go.Proofs.YtefbllhpibfojaaDoor
