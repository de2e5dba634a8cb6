/- The reference of layer 16: Answer. -/
import Derived.Test.YtefbllhpibfojaaDoorGleIM
namespace Go.Proofs.YtefbllhpibfojaaDoor
open Go.Proofs Stab Go.Shelf Go.RowKit Go.Lib Go.Sort

theorem wpList_none {α : Type} {enc : α → List Value} {P : Program} {ops : Array Oper} {Q : Exit → Act → World → Prop} {rest : List Oper} {o : Oper} {a : Act} {w : World} {t e k : Nat} (hw : Region.wanted o (yielded ops a.tmps) = true) (ho : o.op = .buildSlice t 0 #[]) (hu : P.underlying t = some (.slice e)) (hz : ∀ w, (Go.sizeOf e).run P w = .ok k w)
    (h : ∀ g w', g = w.heap.size → w'.heap.size = w.heap.size + 1 → Own w' g e k (.slice (some ⟨g, 0, none⟩) 0 0) 0 (([] : List α).flatMap enc) → Below w.heap.size w w' → wpList P ops Q rest (a.put o.dst (.slice (some ⟨g, 0, none⟩) 0 0)) w') : wpList P ops Q (o :: rest) a w :=
  wpList_to _ _ hw (exec_none ho hu hz w) (h _ _ rfl (by simp) (own_none (k := k) (enc := enc) w e (base := w.heap.size) (Nat.le_refl _)) ((Below.refl _ _).alloc (Nat.le_refl _) _))
theorem sep_blocks {g h : Nat} (n m c d : Nat) (hne : g ≠ h) : Sep (.slice (some ⟨g, 0, none⟩) n c) (.slice (some ⟨h, 0, none⟩) m d) := fun k h1 h2 => by
  have e1 : g = k := Option.some.inj h1
  have e2 : h = k := Option.some.inj h2
  omega
theorem small_cases {x y : Rng} (h : smallB x y = true) : x.count + y.count ≤ 8 ∨ (¬ x.count + y.count ≤ 8 ∧ x.count = 0) ∨ (¬ x.count + y.count ≤ 8 ∧ ¬ x.count = 0 ∧ y.count = 0) ∨ (¬ x.count + y.count ≤ 8 ∧ ¬ x.count = 0 ∧ ¬ y.count = 0 ∧ x.depth = 8) := by
  unfold smallB at h
  rw [Bool.or_eq_true, Bool.or_eq_true, Bool.or_eq_true, decide_eq_true_eq, decide_eq_true_eq, decide_eq_true_eq, decide_eq_true_eq] at h
  by_cases h1 : x.count + y.count ≤ 8
  · exact .inl h1
  by_cases h2 : x.count = 0
  · exact .inr (.inl ⟨h1, h2⟩)
  by_cases h3 : y.count = 0
  · exact .inr (.inr (.inl ⟨h1, h2, h3⟩))
  · refine .inr (.inr (.inr ⟨h1, h2, h3, ?_⟩))
    rcases h with ((h | h) | h) | h
    · exact absurd h h1
    · exact absurd h h2
    · exact absurd h h3
    · exact h
theorem small_not {x y : Rng} (h : smallB x y = false) : ¬ x.count + y.count ≤ 8 ∧ ¬ x.count = 0 ∧ ¬ y.count = 0 ∧ ¬ x.depth = 8 := by
  unfold smallB at h
  rw [Bool.or_eq_false_iff, Bool.or_eq_false_iff, Bool.or_eq_false_iff, decide_eq_false_iff_not, decide_eq_false_iff_not, decide_eq_false_iff_not, decide_eq_false_iff_not] at h
  exact ⟨h.1.1.1, h.1.1.2, h.1.2, h.2⟩
set_option maxRecDepth 100000 in
set_option maxHeartbeats 1000000 in
theorem reffirst0_rngs (A : Option Addr) (c n : Nat) (l : List Rng) (w w0 : World) (hln : n = l.length) (hnc : n ≤ c) (hE : EncIn encG 35 w0 A l) (hn : n < 1099511627776) (M : Nat) (hM : M = (l.take 16).length) :
    Calls Tryd.prog 67 #[.slice A n c] w fun e w' => ∃ A', e = .returned (.slice A' M c) ∧ EncIn encG 35 w0 A' (l.take 16) ∧ w = w' := by
  have hmn : M = min 16 n := by rw [hM, List.length_take, hln]
  have HT := Lib.hid (EncIn.take (m := 16) (c := c) hE (by omega))
  by_cases h : 16 < n
  · obtain rfl : M = 16 := by omega
    have hz : (16 : Int) < (n : Int) := by omega
    clear hmn hE hln hM
    go_enter Tryd.func67, Tryd.ntmps67
    go_wp2_with (first
      | (with_reducible refine wpList_val (.slice (cutA A 0 c 35) 16 c) rfl (exec_slice_rngs (.tmp 6) (.const (.int .i64 16)) rfl A n c 16 (by with_unfolding_all rfl) (by with_unfolding_all rfl) (by omega) _) ?_))
    go_ret
    exact ⟨_, rfl, HT.out, rfl⟩
  · obtain rfl : M = n := by omega
    have hz : ¬ (16 : Int) < (M : Int) := by omega
    have HE := Lib.hid (show EncIn encG 35 w0 A (l.take 16) by rw [List.take_of_length_le (by omega)]; exact hE)
    clear hmn hE hln hM
    go_enter Tryd.func67, Tryd.ntmps67
    go_wp2_with fail
    go_ret
    exact ⟨_, rfl, HE.out, rfl⟩
set_option maxRecDepth 100000 in
set_option maxHeartbeats 8000000 in
theorem refanswer_any (T : Option Addr) (ct tn : Nat) (th : List Rng) (A : Option Addr) (c n : Nat) (l : List Rec) (w : World) (htn : tn = th.length) (htc : tn ≤ ct) (hT : EncIn encG 35 w T th) (ht60 : tn < 1099511627776) (hln : n = l.length) (hE : EncIn encR 65 w A l) (hn : n ≤ 80)
    (X : List Rng) (Y : List Rec) (Z : List Rng) (hX : (foldA th l).1.take 16 = X) (hY : (foldA th l).2.1.take 16 = Y) (hZ : (foldA th l).2.2.take 16 = Z) (M4 M5 M6 : Nat) (hM4 : M4 = X.length) (hM5 : M5 = Y.length) (hM6 : M6 = Z.length) :
    Calls Tryd.prog 33 #[.slice T tn ct, .slice A n c] w fun e w' => ∃ A4 A5 A6 c4 c5 c6, e = .returned (.tuple #[.slice A4 M4 c4, .slice A5 M5 c5, .slice A6 M6 c6]) ∧ EncIn encG 35 w' A4 X ∧ EncIn encR 65 w' A5 Y ∧ EncIn encG 35 w' A6 Z ∧ M4 ≤ c4 ∧ M5 ≤ c5 ∧ M6 ≤ c6 ∧ Below w.heap.size w w' := by
  have HE := Lib.hid (show ∀ W, Behind w W → EncIn encR 65 W A l from fun W h => hE.up h)
  have HLN := Lib.hid hln
  have HLG := Lib.hid (show ∀ x, (Tryd.prog.info? 26).map (·.size) = some (encG x).length from fun x => by rw [encG_len]; exact infoRng)
  have HLL := Lib.hid (show ∀ x y, (encG x).length = (encG y).length from fun x y => by rw [encG_len, encG_len])
  have HGD := Lib.hid (show ∀ (r : Rng) W, Calls Tryd.prog 29 #[.agg (encG r).toArray] W fun e w' => e = .returned (.bool (goodB r)) ∧ Below W.heap.size W w' from fun r W => refgood_any r W)
  have HXYZ := Lib.hid (And.intro hX (And.intro hY hZ))
  have HM4 := Lib.hid hM4
  have HM5 := Lib.hid hM5
  have HM6 := Lib.hid hM6
  obtain ⟨M, hM⟩ : ∃ M, M = (th.take 16).length := ⟨_, rfl⟩
  have hM16 : M ≤ 16 := by rw [hM, List.length_take]; omega
  have HM := Lib.hid hM
  have HFT := Lib.hid (show ∀ W, Calls Tryd.prog 67 #[.slice T tn ct] W fun e w' => ∃ A', e = .returned (.slice A' M ct) ∧ EncIn encG 35 w A' (th.take 16) ∧ W = w' from fun W => reffirst0_rngs T ct tn th W w htn htc hT ht60 M hM)
  clear hE hln hX hY hZ hM4 hM5 hM6 hM htn htc hT ht60
  go_enter Tryd.func33, Tryd.ntmps33
  go_wp2_with (first
    | ((with_reducible refine wpList_none (α := Rng) (enc := encG) (k := 35) rfl rfl Tryd.underlying45 sizeRng ?_); intro g9 x3 hg hs hO hb; have HG9 := Lib.hid (show g9 = w.heap.size + 2 from by (have h1 := HZS2.out; omega)); have HO93 := Lib.hid hO; have HO73 := Lib.hid (HO72.out.below hb); have HO83 := Lib.hid (HO8.out.below hb); have HX3 := Lib.hid (HX2.out.trans (hb.mono HX2.out.size)); have HN789 := Lib.hid (show g7 ≠ g8 ∧ g7 ≠ g9 ∧ g8 ≠ g9 ∧ w.heap.size ≤ g7 ∧ w.heap.size ≤ g8 ∧ w.heap.size ≤ g9 from by (have h1 := HG7.out; have h2 := HG8.out; have h3 := HG9.out; omega)); have H30 := Lib.hid (show Three w.heap.size x3 (.slice (some ⟨g7, 0, none⟩) 0 0) (.slice (some ⟨g8, 0, none⟩) 0 0) (.slice (some ⟨g9, 0, none⟩) 0 0) 0 0 0 [] [] [] from ⟨HO73.out.rebase HN789.out.2.2.2.1, HO83.out.rebase HN789.out.2.2.2.2.1, HO93.out.rebase HN789.out.2.2.2.2.2, sep_blocks _ _ _ _ HN789.out.1, sep_blocks _ _ _ _ HN789.out.2.1, sep_blocks _ _ _ _ HN789.out.2.2.1, rfl, rfl, rfl⟩); clear hg hs hO hb)
    | ((with_reducible refine wpList_none (α := Rng) (enc := encG) (k := 35) rfl rfl Tryd.underlying45 sizeRng ?_); intro g7 x1 hg hs hO hb; have HG7 := Lib.hid hg; have HZS1 := Lib.hid hs; have HO7 := Lib.hid hO; have HX1 := Lib.hid hb; clear hg hs hO hb)
    | ((with_reducible refine wpList_none (α := Rec) (enc := encR) (k := 65) rfl rfl Tryd.underlying22 sizeRec ?_); intro g8 x2 hg hs hO hb; have HG8 := Lib.hid (show g8 = w.heap.size + 1 from by (have h1 := HZS1.out; omega)); have HZS2 := Lib.hid (show x2.heap.size = w.heap.size + 2 from by (have h1 := HZS1.out; omega)); have HO8 := Lib.hid hO; have HO72 := Lib.hid (HO7.out.below hb); have HX2 := Lib.hid (HX1.out.trans (hb.mono HX1.out.size)); clear hg hs hO hb)
    | (go_at_call 67; (with_reducible refine Calls.mono (HFT.out _) ?_); rintro e w' ⟨A14, rfl, hE, rfl⟩; have HET := Lib.hid hE; have HB30 := Lib.hid HX3.out; clear hE))
  go_loopg [7, 8, 9, 11] M (fun gg s4 s5 s6 s16 wr => ∃ (i N4 N5 N6 : Nat) (v4 v5 v6 : Value) (S : List Rng) (I : List Rec) (K : List Rng), v4 = s4 ∧ v5 = s5 ∧ v6 = s6 ∧ s16 = .int .i64 i ∧ i ≤ M ∧ M - i ≤ gg ∧ N4 ≤ 4 * i ∧ N5 ≤ n * i ∧ N6 ≤ i ∧ Hid ((th.take i).foldl (stepA l) ([], [], []) = (S, I, K)) ∧ Hid (Three w.heap.size wr v4 v5 v6 N4 N5 N6 S I K) ∧ Hid (Below w.heap.size w wr))
  case atStart => exact ⟨0, 0, 0, 0, _, _, _, [], [], [], rfl, rfl, rfl, rfl, Nat.zero_le _, by omega, by omega, by omega, by omega, (show Hid _ from (rfl : (th.take 0).foldl (stepA l) ([], [], []) = ([], [], []))), (show Hid _ from H30.out), HB30.out⟩
  case round =>
    obtain ⟨i, N4, N5, N6, v4, v5, v6, S, I, K, hv4, hv5, hv6, rfl, hi, hgg, hN4, hN5, hN6, HF, H3, HBwr⟩ := hrel
    subst hv4 hv5 hv6
    have hN5b : N5 ≤ 1280 := Nat.le_trans hN5 (Nat.mul_le_mul hn (by omega : i ≤ 16))
    have HQ := Lib.hid (show Behind w wr from HBwr.out)
    have hws := HBwr.out.size
    by_cases hlt : i < M
    · have hltz : (i : Int) < (M : Int) := by omega
      have i0 : (0 : Int) ≤ (i : Int) := by omega
      have hit : i < (th.take 16).length := by have := HM.out; omega
      have hith : i < th.length := by rw [List.length_take] at hit; omega
      obtain ⟨gT, offT, hAT, hgT, hrgT⟩ := (HET.out).at hit
      obtain ⟨r, hr⟩ : ∃ r, r = th[i] := ⟨_, rfl⟩
      rw [List.getElem_take, ← hr] at hrgT
      have HRT := Lib.hid (range_below' hrgT HBwr.out hgT)
      have hfold := stepA_snoc l th i hith
      rw [HF.out, ← hr] at hfold
      have HFS := Lib.hid hfold
      have HKwr := Lib.hid (show Below wr.heap.size wr wr from Below.refl _ _)
      clear hrgT hr hfold hgT hit
      subst hAT
      have HGR := Lib.hid (HGD.out r)
      cases hg : goodB r with
      | false =>
        have HNX := Lib.hid (show (th.take (i + 1)).foldl (stepA l) ([], [], []) = (S, I, K) by rw [HFS.out, stepA_bad hg])
        rw [hg] at HGR
        clear hg
        go_wp2_with (first
          | (with_reducible refine wpList_loadW (by with_unfolding_all rfl) 26 (.tmp 30) rfl gT (offT + i * 35) (by with_unfolding_all rfl) (encG r) _ (HRT.out) Tryd.underlying26 (by with_unfolding_all rfl) (HLG.out _) ?_)
          | ((with_reducible refine wpList_allocZ (o := ⟨some 12, _, _, _, _, _⟩) 26 (encG default) rfl rfl zeroRng ?_); intro g12 wa hg hat hb; have HAT12 := Lib.hid hat; have HBA12 := Lib.hid hb; have HGE12 := Lib.hid hg; clear hat hb hg)
          | ((with_reducible refine wpList_storeAll rfl 26 (.tmp 12) (.tmp 31) rfl g12 rfl _ _ (encG r) HAT12.out rfl (HLL.out _ _) (HLG.out _) (encG_one _) ?_); intro wb hat hg hs; have hbb := Below.ofGrown HBA12.out hg HBA12.out.size (Nat.le_of_eq HGE12.out.symm); have HZ12wb := Lib.hid hat; have HBwb := Lib.hid (HBwr.out.trans (hbb.mono HBwr.out.size)); have HKwb := Lib.hid (HKwr.out.trans (hbb.mono HKwr.out.size)); clear hat hg hs hbb)
          | (with_reducible refine wpList_loadAll rfl 26 (.tmp 12) rfl g12 rfl _ _ _ (HZ12wb.out) Tryd.underlying26 rfl (HLG.out _) ?_)
          | (go_at_call 29; (with_reducible refine Calls.mono (HGR.out _) ?_); rintro e wc ⟨rfl, hb⟩; have HBwc := Lib.hid (HBwb.out.trans (hb.mono HBwb.out.size)); have HKwc := Lib.hid (HKwb.out.trans (hb.mono HKwb.out.size)); have HZ12wc := Lib.hid (HZ12wb.out.below hb HZ12wb.out.lt); clear hb))
        go_roundg (M - (i + 1))
        case measure => omega
        case rel => exact ⟨i + 1, N4, N5, N6, v4, v5, v6, S, I, K, rfl, rfl, rfl, by go_num, by omega, Nat.le_refl _, by omega, Nat.le_trans hN5 (Nat.mul_le_mul_left n (Nat.le_succ i)), by omega, HNX.out, H3.out.below HKwc.out, HBwc.out⟩
      | true =>
        have HG := Lib.hid hg
        rw [hg] at HGR
        have hpl : placeB r.depth r.pref = true := by unfold goodB at hg; rw [Bool.and_eq_true, Bool.and_eq_true] at hg; exact hg.1.1
        have hrc : 0 ≤ r.count ∧ r.count ≤ 1048576 := by unfold goodB at hg; rw [Bool.and_eq_true, Bool.and_eq_true, decide_eq_true_eq, decide_eq_true_eq] at hg; exact ⟨hg.1.2, hg.2⟩
        obtain ⟨z, hz⟩ : ∃ z, z = ofR r l := ⟨_, rfl⟩
        have hzg : goodB z = true := by rw [hz]; exact goodB_ofR hpl (by have := HLN.out; omega)
        have hzc : 0 ≤ z.count ∧ z.count ≤ 1048576 := by unfold goodB at hzg; rw [Bool.and_eq_true, Bool.and_eq_true, decide_eq_true_eq, decide_eq_true_eq] at hzg; exact ⟨hzg.1.2, hzg.2⟩
        have HZ := Lib.hid hz
        have HZG := Lib.hid hzg
        have HOF := Lib.hid (show ∀ W, Below w.heap.size w W → Calls Tryd.prog 23 #[.int .i64 r.depth, .int .i64 r.pref, .slice A n c] W fun e w' => e = .returned (.tuple #[.agg (encG z).toArray, .int .i64 0]) ∧ Below W.heap.size W w' from fun W hW => refof_good r hpl A c n l W HLN.out (HE.out W hW) hn z hz)
        have HSM := Lib.hid (show ∀ W, Calls Tryd.prog 65 #[.agg (encG z).toArray, .agg (encG r).toArray] W fun e w' => e = .returned (.bool (smallB z r)) ∧ Below W.heap.size W w' from fun W => small_any z r hzc hrc W)
        have HRC := Lib.hid hrc
        have HZC := Lib.hid hzc
        clear hg hpl hrc hz hzg hzc
        by_cases hzr : z = r
        · have HNX := Lib.hid (show (th.take (i + 1)).foldl (stepA l) ([], [], []) = (S, I, K) by rw [HFS.out, stepA_same (by rw [← HZ.out]; exact hzr)])
          have HEQ := Lib.hid (show ∀ w, (binOp .eql 26 (.agg (encG z).toArray) (.agg (encG r).toArray)).run Tryd.prog w = .ok (.bool true) w from fun w => by have h := run_eql_rng w z r; rw [decide_eq_true hzr] at h; exact h)
          clear hzr
          go_wp2_with (first
            | (with_reducible refine wpList_loadW (by with_unfolding_all rfl) 26 (.tmp 30) rfl gT (offT + i * 35) (by with_unfolding_all rfl) (encG r) _ (HRT.out) Tryd.underlying26 (by with_unfolding_all rfl) (HLG.out _) ?_)
            | ((with_reducible refine wpList_allocZ (o := ⟨some 12, _, _, _, _, _⟩) 26 (encG default) rfl rfl zeroRng ?_); intro g12 wa hg hat hb; have HAT12 := Lib.hid hat; have HBA12 := Lib.hid hb; have HGE12 := Lib.hid hg; clear hat hb hg)
            | ((with_reducible refine wpList_storeAll rfl 26 (.tmp 12) (.tmp 31) rfl g12 rfl _ _ (encG r) HAT12.out rfl (HLL.out _ _) (HLG.out _) (encG_one _) ?_); intro wb hat hg hs; have hbb := Below.ofGrown HBA12.out hg HBA12.out.size (Nat.le_of_eq HGE12.out.symm); have HZ12wb := Lib.hid hat; have HBwb := Lib.hid (HBwr.out.trans (hbb.mono HBwr.out.size)); have HKwb := Lib.hid (HKwr.out.trans (hbb.mono HKwr.out.size)); clear hat hg hs hbb)
            | (with_reducible refine wpList_loadAll rfl 26 (.tmp 12) rfl g12 rfl _ _ _ (HZ12wb.out) Tryd.underlying26 rfl (HLG.out _) ?_)
            | (go_at_call 29; (with_reducible refine Calls.mono (HGR.out _) ?_); rintro e wc ⟨rfl, hb⟩; have HBwc := Lib.hid (HBwb.out.trans (hb.mono HBwb.out.size)); have HKwc := Lib.hid (HKwb.out.trans (hb.mono HKwb.out.size)); have HZ12wc := Lib.hid (HZ12wb.out.below hb HZ12wb.out.lt); have cca := HZ12wc.out.depth; have ccb := HZ12wc.out.pref; clear hb)
            | (go_at_call 23; (with_reducible refine Calls.mono (HOF.out _ HBwc.out) ?_); rintro e wd ⟨rfl, hb⟩; have HBwd := Lib.hid (HBwc.out.trans (hb.mono HBwc.out.size)); have HKwd := Lib.hid (HKwc.out.trans (hb.mono HKwc.out.size)); have HZ12wd := Lib.hid (HZ12wc.out.below hb HZ12wc.out.lt); clear hb cca ccb)
            | ((with_reducible refine wpList_allocZ (o := ⟨some 13, _, _, _, _, _⟩) 26 (encG default) rfl rfl zeroRng ?_); intro g13 we hg hat hb; have HAT13 := Lib.hid hat; have HBA13 := Lib.hid hb; have HGE13 := Lib.hid hg; clear hat hb hg)
            | ((with_reducible refine wpList_storeAll rfl 26 (.tmp 13) (.tmp 42) rfl g13 rfl _ _ (encG z) HAT13.out rfl (HLL.out _ _) (HLG.out _) (encG_one _) ?_); intro wf hat hg hs; have hbb := Below.ofGrown HBA13.out hg HBA13.out.size (Nat.le_of_eq HGE13.out.symm); have HZ13wf := Lib.hid hat; have HBwf := Lib.hid (HBwd.out.trans (hbb.mono HBwd.out.size)); have HKwf := Lib.hid (HKwd.out.trans (hbb.mono HKwd.out.size)); have HZ12wf := Lib.hid (HZ12wd.out.below hbb HZ12wd.out.lt); clear hat hg hs hbb; have cfa := HZ13wf.out.count; have cfb := HZ12wf.out.count; have cfc := HZ12wf.out.depth)
            | (with_reducible refine wpList_loadAll rfl 26 (.tmp 13) rfl g13 rfl _ _ _ (HZ13wf.out) Tryd.underlying26 rfl (HLG.out _) ?_)
            | (with_reducible refine wpList_loadAll rfl 26 (.tmp 12) rfl g12 rfl _ _ _ (HZ12wf.out) Tryd.underlying26 rfl (HLG.out _) ?_)
            | (with_reducible refine wpList_eq (.bool true) (by with_unfolding_all rfl) .eql 26 (.tmp 44) (.tmp 45) 26 rfl (.agg (encG z).toArray) (.agg (encG r).toArray) (by with_unfolding_all rfl) (by with_unfolding_all rfl) (fun w => run_eqGuard_rng w _ _ _ _ _) HEQ.out ?_))
          go_roundg (M - (i + 1))
          case measure => omega
          case rel => exact ⟨i + 1, N4, N5, N6, v4, v5, v6, S, I, K, rfl, rfl, rfl, by go_num, by omega, Nat.le_refl _, by omega, Nat.le_trans hN5 (Nat.mul_le_mul_left n (Nat.le_succ i)), by omega, HNX.out, H3.out.below HKwf.out, HBwf.out⟩
        have HEQ := Lib.hid (show ∀ w, (binOp .eql 26 (.agg (encG z).toArray) (.agg (encG r).toArray)).run Tryd.prog w = .ok (.bool false) w from fun w => by have h := run_eql_rng w z r; rw [decide_eq_false hzr] at h; exact h)
        have HNE := Lib.hid (show ofR r l ≠ r by rw [← HZ.out]; exact hzr)
        clear hzr
        have hN5x : n * i + n = n * (i + 1) := by rw [Nat.mul_succ]
        have hzd : z.depth = r.depth := by rw [HZ.out]; rfl
        cases hs : smallB z r with
        | true =>
          obtain ⟨NI, hNI⟩ : ∃ N, N = (itemsR r l).length := ⟨_, rfl⟩
          have hNIn : NI ≤ n := by have h1 := itemsR_len r l; have h2 := HLN.out; omega
          have HNI := Lib.hid hNI
          have HIT := Lib.hid (show ∀ W, Below w.heap.size w W → Calls Tryd.prog 27 #[.agg (encG r).toArray, .slice A n c] W fun e w' => ∃ A' c', e = .returned (.slice A' NI c') ∧ NI ≤ c' ∧ EncIn encR 65 w' A' (itemsR r l) ∧ Below W.heap.size W w' from fun W hW => refitems_any r A c l W n NI HLN.out hNI (HE.out W hW) (by omega))
          have hcs := small_cases hs
          rw [hzd] at hcs
          clear hNI hzd
          by_cases hc : 0 < r.count
          · have HNX := Lib.hid (show (th.take (i + 1)).foldl (stepA l) ([], [], []) = (S, I ++ itemsR r l, K ++ [z]) by rw [HFS.out, HZ.out, stepA_small HG.out HNE.out (by rw [← HZ.out]; exact hs) hc])
            have HCS := Lib.hid hcs
            clear hs hcs
            go_upto_region 12 with (first
              | (with_reducible refine wpList_loadW (by with_unfolding_all rfl) 26 (.tmp 30) rfl gT (offT + i * 35) (by with_unfolding_all rfl) (encG r) _ (HRT.out) Tryd.underlying26 (by with_unfolding_all rfl) (HLG.out _) ?_)
              | ((with_reducible refine wpList_allocZ (o := ⟨some 12, _, _, _, _, _⟩) 26 (encG default) rfl rfl zeroRng ?_); intro g12 wa hg hat hb; have HAT12 := Lib.hid hat; have HBA12 := Lib.hid hb; have HGE12 := Lib.hid hg; clear hat hb hg)
              | ((with_reducible refine wpList_storeAll rfl 26 (.tmp 12) (.tmp 31) rfl g12 rfl _ _ (encG r) HAT12.out rfl (HLL.out _ _) (HLG.out _) (encG_one _) ?_); intro wb hat hg hs; have hbb := Below.ofGrown HBA12.out hg HBA12.out.size (Nat.le_of_eq HGE12.out.symm); have HZ12wb := Lib.hid hat; have HBwb := Lib.hid (HBwr.out.trans (hbb.mono HBwr.out.size)); have HKwb := Lib.hid (HKwr.out.trans (hbb.mono HKwr.out.size)); clear hat hg hs hbb)
              | (with_reducible refine wpList_loadAll rfl 26 (.tmp 12) rfl g12 rfl _ _ _ (HZ12wb.out) Tryd.underlying26 rfl (HLG.out _) ?_)
              | (go_at_call 29; (with_reducible refine Calls.mono (HGR.out _) ?_); rintro e wc ⟨rfl, hb⟩; have HBwc := Lib.hid (HBwb.out.trans (hb.mono HBwb.out.size)); have HKwc := Lib.hid (HKwb.out.trans (hb.mono HKwb.out.size)); have HZ12wc := Lib.hid (HZ12wb.out.below hb HZ12wb.out.lt); have cca := HZ12wc.out.depth; have ccb := HZ12wc.out.pref; clear hb)
              | (go_at_call 23; (with_reducible refine Calls.mono (HOF.out _ HBwc.out) ?_); rintro e wd ⟨rfl, hb⟩; have HBwd := Lib.hid (HBwc.out.trans (hb.mono HBwc.out.size)); have HKwd := Lib.hid (HKwc.out.trans (hb.mono HKwc.out.size)); have HZ12wd := Lib.hid (HZ12wc.out.below hb HZ12wc.out.lt); clear hb cca ccb)
              | ((with_reducible refine wpList_allocZ (o := ⟨some 13, _, _, _, _, _⟩) 26 (encG default) rfl rfl zeroRng ?_); intro g13 we hg hat hb; have HAT13 := Lib.hid hat; have HBA13 := Lib.hid hb; have HGE13 := Lib.hid hg; clear hat hb hg)
              | ((with_reducible refine wpList_storeAll rfl 26 (.tmp 13) (.tmp 42) rfl g13 rfl _ _ (encG z) HAT13.out rfl (HLL.out _ _) (HLG.out _) (encG_one _) ?_); intro wf hat hg hs; have hbb := Below.ofGrown HBA13.out hg HBA13.out.size (Nat.le_of_eq HGE13.out.symm); have HZ13wf := Lib.hid hat; have HBwf := Lib.hid (HBwd.out.trans (hbb.mono HBwd.out.size)); have HKwf := Lib.hid (HKwd.out.trans (hbb.mono HKwd.out.size)); have HZ12wf := Lib.hid (HZ12wd.out.below hbb HZ12wd.out.lt); clear hat hg hs hbb; have cfa := HZ13wf.out.count; have cfb := HZ12wf.out.count; have cfc := HZ12wf.out.depth)
              | (with_reducible refine wpList_loadAll rfl 26 (.tmp 13) rfl g13 rfl _ _ _ (HZ13wf.out) Tryd.underlying26 rfl (HLG.out _) ?_)
              | (with_reducible refine wpList_loadAll rfl 26 (.tmp 12) rfl g12 rfl _ _ _ (HZ12wf.out) Tryd.underlying26 rfl (HLG.out _) ?_)
              | (with_reducible refine wpList_eq (.bool false) (by with_unfolding_all rfl) .eql 26 (.tmp 44) (.tmp 45) 26 rfl (.agg (encG z).toArray) (.agg (encG r).toArray) (by with_unfolding_all rfl) (by with_unfolding_all rfl) (fun w => run_eqGuard_rng w _ _ _ _ _) HEQ.out ?_))
            have hrc := HRC.out
            have hzc := HZC.out
            rcases HCS.out with h | ⟨h1, h⟩ | ⟨h1, h2, h⟩ | ⟨h1, h2, h3, h⟩
            · go_upto_region 13 with fail
              clear h
              go_wp2_with (first
                | (with_reducible refine wpList_loadAll rfl 26 (.tmp 12) rfl g12 rfl _ _ _ (HZ12wf.out) Tryd.underlying26 rfl (HLG.out _) ?_)
                | (go_at_call 27; (with_reducible refine Calls.mono (HIT.out _ HBwf.out) ?_); rintro e wh ⟨A35, c35, rfl, _, hE, hb⟩; have HE35 := Lib.hid hE; have HBwh := Lib.hid (HBwf.out.trans (hb.mono HBwf.out.size)); have HKwh := Lib.hid (HKwf.out.trans (hb.mono HKwf.out.size)); have HZ12wh := Lib.hid (HZ12wf.out.below hb HZ12wf.out.lt); have HZ13wh := Lib.hid (HZ13wf.out.below hb HZ13wf.out.lt); have H3wh := Lib.hid (H3.out.below HKwh.out); have hwhs := HBwh.out.size; have HN8 := Lib.hid (show ∀ v : Value, (∀ k, v.ownBlock = some k → k < wr.heap.size) → some g12 ≠ v.ownBlock ∧ some g13 ≠ v.ownBlock from fun v hv => ⟨fun e => by (have h1 := hv _ e.symm; have h2 := HGE12.out; omega), fun e => by (have h1 := hv _ e.symm; have h2 := HGE13.out; have h3 := HKwd.out.size; omega)⟩); clear hE hb cfa cfb cfc)
                | (at_builtin; refine wpList_append_enc (enc := encR) (k := 65) rfl rfl (.tmp 68) (.tmp 71) 22 38 72 rfl _ Tryd.underlying22 info3Rec rfl (by decide) w.heap.size v5 (N5) (I) (itemsR r l) rfl H3wh.out.o5 (fun _ _ => encR_len _) (fun _ _ => encR_one _) A35 NI c35 rfl HNI.out HE35.out (by rw [← HNI.out]; unfold maxLen; omega) (by rw [← HNI.out]; omega) hwhs ?_; intro v5' wi hO7 hg7 hob; rw [← HNI.out] at hO7; have H3wi := Lib.hid (H3wh.out.app5 hO7 (by rw [List.length_append, ← H3wh.out.n5, HNI.out]) hg7 hob); have HBwi := Lib.hid (own_below2 H3wh.out.o5 HBwh.out (Nat.le_refl _) hwhs hg7); have HZ12wi := Lib.hid (HZ12wh.out.grown hg7 (HN8.out v5 (fun k hk => (H3.out.o5.lt k hk).2)).1); have HZ13wi := Lib.hid (HZ13wh.out.grown hg7 (HN8.out v5 (fun k hk => (H3.out.o5.lt k hk).2)).2); have ci := HZ12wi.out.count; clear hO7 hg7 hob)
                | (with_reducible refine wpList_loadAll rfl 26 (.tmp 13) rfl g13 rfl _ _ _ (HZ13wi.out) Tryd.underlying26 rfl (HLG.out _) ?_)
                | ((with_reducible refine wpList_one rfl 45 26 35 z (.tmp 77) rfl (by with_unfolding_all rfl) Tryd.underlying45 info2Rng (by decide) (by decide) (encG_len z) ?_); intro g78 wj hg hb hE; have HEO := Lib.hid hE; have H3wj := Lib.hid (H3wi.out.below hb); have HBwj := Lib.hid (HBwi.out.trans (hb.mono HBwi.out.size)); have hwjs := HBwj.out.size; clear hg hb hE)
                | (at_builtin; refine wpList_append_enc (enc := encG) (k := 35) rfl rfl (.tmp 76) (.tmp 78) 45 26 56 rfl _ Tryd.underlying45 info3Rng rfl (by decide) w.heap.size v6 (N6) (K) ([z]) rfl H3wj.out.o6 (fun _ _ => encG_len _) (fun _ _ => encG_one _) (some ⟨g78, 0, none⟩) 1 1 rfl (show 1 = [z].length from rfl) HEO.out (by unfold maxLen; simp; omega) (by simp; omega) hwjs ?_; intro v6' wk hO7 hg7 hob; have H3wk := Lib.hid (H3wj.out.app6 hO7 (by rw [List.length_append, ← H3wj.out.n6]) hg7 hob); have HBwk := Lib.hid (own_below2 H3wj.out.o6 HBwj.out (Nat.le_refl _) hwjs hg7); clear hO7 hg7 hob))
              go_roundg (M - (i + 1))
              case measure => omega
              case rel => exact ⟨i + 1, N4, N5 + NI, N6 + 1, v4, v5', v6', S, I ++ itemsR r l, K ++ [z], rfl, rfl, rfl, by go_num, by omega, Nat.le_refl _, by omega, by omega, by omega, HNX.out, H3wk.out, HBwk.out⟩
            · rw [h] at cfa h1
              have hy8 : ¬ r.count ≤ 8 := by omega
              have h1' : ¬ (0 : Int) + r.count ≤ 8 := by omega
              clear h1 h
              go_upto_region 13 with fail
              go_wp2_with (first
                | (with_reducible refine wpList_loadAll rfl 26 (.tmp 12) rfl g12 rfl _ _ _ (HZ12wf.out) Tryd.underlying26 rfl (HLG.out _) ?_)
                | (go_at_call 27; (with_reducible refine Calls.mono (HIT.out _ HBwf.out) ?_); rintro e wh ⟨A35, c35, rfl, _, hE, hb⟩; have HE35 := Lib.hid hE; have HBwh := Lib.hid (HBwf.out.trans (hb.mono HBwf.out.size)); have HKwh := Lib.hid (HKwf.out.trans (hb.mono HKwf.out.size)); have HZ12wh := Lib.hid (HZ12wf.out.below hb HZ12wf.out.lt); have HZ13wh := Lib.hid (HZ13wf.out.below hb HZ13wf.out.lt); have H3wh := Lib.hid (H3.out.below HKwh.out); have hwhs := HBwh.out.size; have HN8 := Lib.hid (show ∀ v : Value, (∀ k, v.ownBlock = some k → k < wr.heap.size) → some g12 ≠ v.ownBlock ∧ some g13 ≠ v.ownBlock from fun v hv => ⟨fun e => by (have h1 := hv _ e.symm; have h2 := HGE12.out; omega), fun e => by (have h1 := hv _ e.symm; have h2 := HGE13.out; have h3 := HKwd.out.size; omega)⟩); clear hE hb cfa cfb cfc)
                | (at_builtin; refine wpList_append_enc (enc := encR) (k := 65) rfl rfl (.tmp 68) (.tmp 71) 22 38 72 rfl _ Tryd.underlying22 info3Rec rfl (by decide) w.heap.size v5 (N5) (I) (itemsR r l) rfl H3wh.out.o5 (fun _ _ => encR_len _) (fun _ _ => encR_one _) A35 NI c35 rfl HNI.out HE35.out (by rw [← HNI.out]; unfold maxLen; omega) (by rw [← HNI.out]; omega) hwhs ?_; intro v5' wi hO7 hg7 hob; rw [← HNI.out] at hO7; have H3wi := Lib.hid (H3wh.out.app5 hO7 (by rw [List.length_append, ← H3wh.out.n5, HNI.out]) hg7 hob); have HBwi := Lib.hid (own_below2 H3wh.out.o5 HBwh.out (Nat.le_refl _) hwhs hg7); have HZ12wi := Lib.hid (HZ12wh.out.grown hg7 (HN8.out v5 (fun k hk => (H3.out.o5.lt k hk).2)).1); have HZ13wi := Lib.hid (HZ13wh.out.grown hg7 (HN8.out v5 (fun k hk => (H3.out.o5.lt k hk).2)).2); have ci := HZ12wi.out.count; clear hO7 hg7 hob)
                | (with_reducible refine wpList_loadAll rfl 26 (.tmp 13) rfl g13 rfl _ _ _ (HZ13wi.out) Tryd.underlying26 rfl (HLG.out _) ?_)
                | ((with_reducible refine wpList_one rfl 45 26 35 z (.tmp 77) rfl (by with_unfolding_all rfl) Tryd.underlying45 info2Rng (by decide) (by decide) (encG_len z) ?_); intro g78 wj hg hb hE; have HEO := Lib.hid hE; have H3wj := Lib.hid (H3wi.out.below hb); have HBwj := Lib.hid (HBwi.out.trans (hb.mono HBwi.out.size)); have hwjs := HBwj.out.size; clear hg hb hE)
                | (at_builtin; refine wpList_append_enc (enc := encG) (k := 35) rfl rfl (.tmp 76) (.tmp 78) 45 26 56 rfl _ Tryd.underlying45 info3Rng rfl (by decide) w.heap.size v6 (N6) (K) ([z]) rfl H3wj.out.o6 (fun _ _ => encG_len _) (fun _ _ => encG_one _) (some ⟨g78, 0, none⟩) 1 1 rfl (show 1 = [z].length from rfl) HEO.out (by unfold maxLen; simp; omega) (by simp; omega) hwjs ?_; intro v6' wk hO7 hg7 hob; have H3wk := Lib.hid (H3wj.out.app6 hO7 (by rw [List.length_append, ← H3wj.out.n6]) hg7 hob); have HBwk := Lib.hid (own_below2 H3wj.out.o6 HBwj.out (Nat.le_refl _) hwjs hg7); clear hO7 hg7 hob))
              go_roundg (M - (i + 1))
              case measure => omega
              case rel => exact ⟨i + 1, N4, N5 + NI, N6 + 1, v4, v5', v6', S, I ++ itemsR r l, K ++ [z], rfl, rfl, rfl, by go_num, by omega, Nat.le_refl _, by omega, by omega, by omega, HNX.out, H3wk.out, HBwk.out⟩
            · omega
            · rw [h] at cfc
              clear h
              go_upto_region 13 with fail
              go_wp2_with (first
                | (with_reducible refine wpList_loadAll rfl 26 (.tmp 12) rfl g12 rfl _ _ _ (HZ12wf.out) Tryd.underlying26 rfl (HLG.out _) ?_)
                | (go_at_call 27; (with_reducible refine Calls.mono (HIT.out _ HBwf.out) ?_); rintro e wh ⟨A35, c35, rfl, _, hE, hb⟩; have HE35 := Lib.hid hE; have HBwh := Lib.hid (HBwf.out.trans (hb.mono HBwf.out.size)); have HKwh := Lib.hid (HKwf.out.trans (hb.mono HKwf.out.size)); have HZ12wh := Lib.hid (HZ12wf.out.below hb HZ12wf.out.lt); have HZ13wh := Lib.hid (HZ13wf.out.below hb HZ13wf.out.lt); have H3wh := Lib.hid (H3.out.below HKwh.out); have hwhs := HBwh.out.size; have HN8 := Lib.hid (show ∀ v : Value, (∀ k, v.ownBlock = some k → k < wr.heap.size) → some g12 ≠ v.ownBlock ∧ some g13 ≠ v.ownBlock from fun v hv => ⟨fun e => by (have h1 := hv _ e.symm; have h2 := HGE12.out; omega), fun e => by (have h1 := hv _ e.symm; have h2 := HGE13.out; have h3 := HKwd.out.size; omega)⟩); clear hE hb cfa cfb cfc)
                | (at_builtin; refine wpList_append_enc (enc := encR) (k := 65) rfl rfl (.tmp 68) (.tmp 71) 22 38 72 rfl _ Tryd.underlying22 info3Rec rfl (by decide) w.heap.size v5 (N5) (I) (itemsR r l) rfl H3wh.out.o5 (fun _ _ => encR_len _) (fun _ _ => encR_one _) A35 NI c35 rfl HNI.out HE35.out (by rw [← HNI.out]; unfold maxLen; omega) (by rw [← HNI.out]; omega) hwhs ?_; intro v5' wi hO7 hg7 hob; rw [← HNI.out] at hO7; have H3wi := Lib.hid (H3wh.out.app5 hO7 (by rw [List.length_append, ← H3wh.out.n5, HNI.out]) hg7 hob); have HBwi := Lib.hid (own_below2 H3wh.out.o5 HBwh.out (Nat.le_refl _) hwhs hg7); have HZ12wi := Lib.hid (HZ12wh.out.grown hg7 (HN8.out v5 (fun k hk => (H3.out.o5.lt k hk).2)).1); have HZ13wi := Lib.hid (HZ13wh.out.grown hg7 (HN8.out v5 (fun k hk => (H3.out.o5.lt k hk).2)).2); have ci := HZ12wi.out.count; clear hO7 hg7 hob)
                | (with_reducible refine wpList_loadAll rfl 26 (.tmp 13) rfl g13 rfl _ _ _ (HZ13wi.out) Tryd.underlying26 rfl (HLG.out _) ?_)
                | ((with_reducible refine wpList_one rfl 45 26 35 z (.tmp 77) rfl (by with_unfolding_all rfl) Tryd.underlying45 info2Rng (by decide) (by decide) (encG_len z) ?_); intro g78 wj hg hb hE; have HEO := Lib.hid hE; have H3wj := Lib.hid (H3wi.out.below hb); have HBwj := Lib.hid (HBwi.out.trans (hb.mono HBwi.out.size)); have hwjs := HBwj.out.size; clear hg hb hE)
                | (at_builtin; refine wpList_append_enc (enc := encG) (k := 35) rfl rfl (.tmp 76) (.tmp 78) 45 26 56 rfl _ Tryd.underlying45 info3Rng rfl (by decide) w.heap.size v6 (N6) (K) ([z]) rfl H3wj.out.o6 (fun _ _ => encG_len _) (fun _ _ => encG_one _) (some ⟨g78, 0, none⟩) 1 1 rfl (show 1 = [z].length from rfl) HEO.out (by unfold maxLen; simp; omega) (by simp; omega) hwjs ?_; intro v6' wk hO7 hg7 hob; have H3wk := Lib.hid (H3wj.out.app6 hO7 (by rw [List.length_append, ← H3wj.out.n6]) hg7 hob); have HBwk := Lib.hid (own_below2 H3wj.out.o6 HBwj.out (Nat.le_refl _) hwjs hg7); clear hO7 hg7 hob))
              go_roundg (M - (i + 1))
              case measure => omega
              case rel => exact ⟨i + 1, N4, N5 + NI, N6 + 1, v4, v5', v6', S, I ++ itemsR r l, K ++ [z], rfl, rfl, rfl, by go_num, by omega, Nat.le_refl _, by omega, by omega, by omega, HNX.out, H3wk.out, HBwk.out⟩
          · have HNX := Lib.hid (show (th.take (i + 1)).foldl (stepA l) ([], [], []) = (S, I ++ itemsR r l, K) by rw [HFS.out, stepA_small0 HG.out HNE.out (by rw [← HZ.out]; exact hs) hc])
            have HCS := Lib.hid hcs
            clear hs hcs
            go_upto_region 12 with (first
              | (with_reducible refine wpList_loadW (by with_unfolding_all rfl) 26 (.tmp 30) rfl gT (offT + i * 35) (by with_unfolding_all rfl) (encG r) _ (HRT.out) Tryd.underlying26 (by with_unfolding_all rfl) (HLG.out _) ?_)
              | ((with_reducible refine wpList_allocZ (o := ⟨some 12, _, _, _, _, _⟩) 26 (encG default) rfl rfl zeroRng ?_); intro g12 wa hg hat hb; have HAT12 := Lib.hid hat; have HBA12 := Lib.hid hb; have HGE12 := Lib.hid hg; clear hat hb hg)
              | ((with_reducible refine wpList_storeAll rfl 26 (.tmp 12) (.tmp 31) rfl g12 rfl _ _ (encG r) HAT12.out rfl (HLL.out _ _) (HLG.out _) (encG_one _) ?_); intro wb hat hg hs; have hbb := Below.ofGrown HBA12.out hg HBA12.out.size (Nat.le_of_eq HGE12.out.symm); have HZ12wb := Lib.hid hat; have HBwb := Lib.hid (HBwr.out.trans (hbb.mono HBwr.out.size)); have HKwb := Lib.hid (HKwr.out.trans (hbb.mono HKwr.out.size)); clear hat hg hs hbb)
              | (with_reducible refine wpList_loadAll rfl 26 (.tmp 12) rfl g12 rfl _ _ _ (HZ12wb.out) Tryd.underlying26 rfl (HLG.out _) ?_)
              | (go_at_call 29; (with_reducible refine Calls.mono (HGR.out _) ?_); rintro e wc ⟨rfl, hb⟩; have HBwc := Lib.hid (HBwb.out.trans (hb.mono HBwb.out.size)); have HKwc := Lib.hid (HKwb.out.trans (hb.mono HKwb.out.size)); have HZ12wc := Lib.hid (HZ12wb.out.below hb HZ12wb.out.lt); have cca := HZ12wc.out.depth; have ccb := HZ12wc.out.pref; clear hb)
              | (go_at_call 23; (with_reducible refine Calls.mono (HOF.out _ HBwc.out) ?_); rintro e wd ⟨rfl, hb⟩; have HBwd := Lib.hid (HBwc.out.trans (hb.mono HBwc.out.size)); have HKwd := Lib.hid (HKwc.out.trans (hb.mono HKwc.out.size)); have HZ12wd := Lib.hid (HZ12wc.out.below hb HZ12wc.out.lt); clear hb cca ccb)
              | ((with_reducible refine wpList_allocZ (o := ⟨some 13, _, _, _, _, _⟩) 26 (encG default) rfl rfl zeroRng ?_); intro g13 we hg hat hb; have HAT13 := Lib.hid hat; have HBA13 := Lib.hid hb; have HGE13 := Lib.hid hg; clear hat hb hg)
              | ((with_reducible refine wpList_storeAll rfl 26 (.tmp 13) (.tmp 42) rfl g13 rfl _ _ (encG z) HAT13.out rfl (HLL.out _ _) (HLG.out _) (encG_one _) ?_); intro wf hat hg hs; have hbb := Below.ofGrown HBA13.out hg HBA13.out.size (Nat.le_of_eq HGE13.out.symm); have HZ13wf := Lib.hid hat; have HBwf := Lib.hid (HBwd.out.trans (hbb.mono HBwd.out.size)); have HKwf := Lib.hid (HKwd.out.trans (hbb.mono HKwd.out.size)); have HZ12wf := Lib.hid (HZ12wd.out.below hbb HZ12wd.out.lt); clear hat hg hs hbb; have cfa := HZ13wf.out.count; have cfb := HZ12wf.out.count; have cfc := HZ12wf.out.depth)
              | (with_reducible refine wpList_loadAll rfl 26 (.tmp 13) rfl g13 rfl _ _ _ (HZ13wf.out) Tryd.underlying26 rfl (HLG.out _) ?_)
              | (with_reducible refine wpList_loadAll rfl 26 (.tmp 12) rfl g12 rfl _ _ _ (HZ12wf.out) Tryd.underlying26 rfl (HLG.out _) ?_)
              | (with_reducible refine wpList_eq (.bool false) (by with_unfolding_all rfl) .eql 26 (.tmp 44) (.tmp 45) 26 rfl (.agg (encG z).toArray) (.agg (encG r).toArray) (by with_unfolding_all rfl) (by with_unfolding_all rfl) (fun w => run_eqGuard_rng w _ _ _ _ _) HEQ.out ?_))
            have hrc := HRC.out
            have hzc := HZC.out
            rcases HCS.out with h | ⟨h1, h⟩ | ⟨h1, h2, h⟩ | ⟨h1, h2, h3, h⟩
            · go_upto_region 13 with fail
              clear h
              go_wp2_with (first
                | (with_reducible refine wpList_loadAll rfl 26 (.tmp 12) rfl g12 rfl _ _ _ (HZ12wf.out) Tryd.underlying26 rfl (HLG.out _) ?_)
                | (go_at_call 27; (with_reducible refine Calls.mono (HIT.out _ HBwf.out) ?_); rintro e wh ⟨A35, c35, rfl, _, hE, hb⟩; have HE35 := Lib.hid hE; have HBwh := Lib.hid (HBwf.out.trans (hb.mono HBwf.out.size)); have HKwh := Lib.hid (HKwf.out.trans (hb.mono HKwf.out.size)); have HZ12wh := Lib.hid (HZ12wf.out.below hb HZ12wf.out.lt); have HZ13wh := Lib.hid (HZ13wf.out.below hb HZ13wf.out.lt); have H3wh := Lib.hid (H3.out.below HKwh.out); have hwhs := HBwh.out.size; have HN8 := Lib.hid (show ∀ v : Value, (∀ k, v.ownBlock = some k → k < wr.heap.size) → some g12 ≠ v.ownBlock ∧ some g13 ≠ v.ownBlock from fun v hv => ⟨fun e => by (have h1 := hv _ e.symm; have h2 := HGE12.out; omega), fun e => by (have h1 := hv _ e.symm; have h2 := HGE13.out; have h3 := HKwd.out.size; omega)⟩); clear hE hb cfa cfb cfc)
                | (at_builtin; refine wpList_append_enc (enc := encR) (k := 65) rfl rfl (.tmp 68) (.tmp 71) 22 38 72 rfl _ Tryd.underlying22 info3Rec rfl (by decide) w.heap.size v5 (N5) (I) (itemsR r l) rfl H3wh.out.o5 (fun _ _ => encR_len _) (fun _ _ => encR_one _) A35 NI c35 rfl HNI.out HE35.out (by rw [← HNI.out]; unfold maxLen; omega) (by rw [← HNI.out]; omega) hwhs ?_; intro v5' wi hO7 hg7 hob; rw [← HNI.out] at hO7; have H3wi := Lib.hid (H3wh.out.app5 hO7 (by rw [List.length_append, ← H3wh.out.n5, HNI.out]) hg7 hob); have HBwi := Lib.hid (own_below2 H3wh.out.o5 HBwh.out (Nat.le_refl _) hwhs hg7); have HZ12wi := Lib.hid (HZ12wh.out.grown hg7 (HN8.out v5 (fun k hk => (H3.out.o5.lt k hk).2)).1); have HZ13wi := Lib.hid (HZ13wh.out.grown hg7 (HN8.out v5 (fun k hk => (H3.out.o5.lt k hk).2)).2); have ci := HZ12wi.out.count; clear hO7 hg7 hob))
              go_roundg (M - (i + 1))
              case measure => omega
              case rel => exact ⟨i + 1, N4, N5 + NI, N6, v4, v5', v6, S, I ++ itemsR r l, K, rfl, rfl, rfl, by go_num, by omega, Nat.le_refl _, by omega, by omega, by omega, HNX.out, H3wi.out, HBwi.out⟩
            · omega
            · rw [h] at cfb h1
              have hx8 : ¬ z.count ≤ 8 := by omega
              have h1' : ¬ z.count + 0 ≤ 8 := by omega
              clear h1 h
              go_upto_region 13 with fail
              go_wp2_with (first
                | (with_reducible refine wpList_loadAll rfl 26 (.tmp 12) rfl g12 rfl _ _ _ (HZ12wf.out) Tryd.underlying26 rfl (HLG.out _) ?_)
                | (go_at_call 27; (with_reducible refine Calls.mono (HIT.out _ HBwf.out) ?_); rintro e wh ⟨A35, c35, rfl, _, hE, hb⟩; have HE35 := Lib.hid hE; have HBwh := Lib.hid (HBwf.out.trans (hb.mono HBwf.out.size)); have HKwh := Lib.hid (HKwf.out.trans (hb.mono HKwf.out.size)); have HZ12wh := Lib.hid (HZ12wf.out.below hb HZ12wf.out.lt); have HZ13wh := Lib.hid (HZ13wf.out.below hb HZ13wf.out.lt); have H3wh := Lib.hid (H3.out.below HKwh.out); have hwhs := HBwh.out.size; have HN8 := Lib.hid (show ∀ v : Value, (∀ k, v.ownBlock = some k → k < wr.heap.size) → some g12 ≠ v.ownBlock ∧ some g13 ≠ v.ownBlock from fun v hv => ⟨fun e => by (have h1 := hv _ e.symm; have h2 := HGE12.out; omega), fun e => by (have h1 := hv _ e.symm; have h2 := HGE13.out; have h3 := HKwd.out.size; omega)⟩); clear hE hb cfa cfb cfc)
                | (at_builtin; refine wpList_append_enc (enc := encR) (k := 65) rfl rfl (.tmp 68) (.tmp 71) 22 38 72 rfl _ Tryd.underlying22 info3Rec rfl (by decide) w.heap.size v5 (N5) (I) (itemsR r l) rfl H3wh.out.o5 (fun _ _ => encR_len _) (fun _ _ => encR_one _) A35 NI c35 rfl HNI.out HE35.out (by rw [← HNI.out]; unfold maxLen; omega) (by rw [← HNI.out]; omega) hwhs ?_; intro v5' wi hO7 hg7 hob; rw [← HNI.out] at hO7; have H3wi := Lib.hid (H3wh.out.app5 hO7 (by rw [List.length_append, ← H3wh.out.n5, HNI.out]) hg7 hob); have HBwi := Lib.hid (own_below2 H3wh.out.o5 HBwh.out (Nat.le_refl _) hwhs hg7); have HZ12wi := Lib.hid (HZ12wh.out.grown hg7 (HN8.out v5 (fun k hk => (H3.out.o5.lt k hk).2)).1); have HZ13wi := Lib.hid (HZ13wh.out.grown hg7 (HN8.out v5 (fun k hk => (H3.out.o5.lt k hk).2)).2); have ci := HZ12wi.out.count; clear hO7 hg7 hob))
              go_roundg (M - (i + 1))
              case measure => omega
              case rel => exact ⟨i + 1, N4, N5 + NI, N6, v4, v5', v6, S, I ++ itemsR r l, K, rfl, rfl, rfl, by go_num, by omega, Nat.le_refl _, by omega, by omega, by omega, HNX.out, H3wi.out, HBwi.out⟩
            · omega
        | false =>
          have HPT := Lib.hid (show ∀ W, Below w.heap.size w W → Calls Tryd.prog 25 #[.agg (encG z).toArray, .slice A n c] W fun e w' => ∃ A' c', e = .returned (.tuple #[.slice A' 4 c', .int .i64 0]) ∧ 4 ≤ c' ∧ EncIn encG 35 w' A' (partsR z l) ∧ Below W.heap.size W w' from fun W hW => refparts_good z HZG.out (small_depth hs) A c n l W HLN.out (HE.out W hW) hn)
          have HNX := Lib.hid (show (th.take (i + 1)).foldl (stepA l) ([], [], []) = (S ++ partsR z l, I, K) by rw [HFS.out, HZ.out, stepA_big HG.out HNE.out (by rw [← HZ.out]; exact hs)])
          have hns := small_not hs
          rw [hzd] at hns
          obtain ⟨q1, q2, q3, q4⟩ := hns
          have hrc := HRC.out
          have hzc := HZC.out
          have e2 : (z.count == 0) = false := by simpa using q2
          have e3 : (r.count == 0) = false := by simpa using q3
          have e4 : (r.depth == 8) = false := by simpa using q4
          clear hs hzd
          go_wp2_with (first
            | (with_reducible refine wpList_loadW (by with_unfolding_all rfl) 26 (.tmp 30) rfl gT (offT + i * 35) (by with_unfolding_all rfl) (encG r) _ (HRT.out) Tryd.underlying26 (by with_unfolding_all rfl) (HLG.out _) ?_)
            | ((with_reducible refine wpList_allocZ (o := ⟨some 12, _, _, _, _, _⟩) 26 (encG default) rfl rfl zeroRng ?_); intro g12 wa hg hat hb; have HAT12 := Lib.hid hat; have HBA12 := Lib.hid hb; have HGE12 := Lib.hid hg; clear hat hb hg)
            | ((with_reducible refine wpList_storeAll rfl 26 (.tmp 12) (.tmp 31) rfl g12 rfl _ _ (encG r) HAT12.out rfl (HLL.out _ _) (HLG.out _) (encG_one _) ?_); intro wb hat hg hs; have hbb := Below.ofGrown HBA12.out hg HBA12.out.size (Nat.le_of_eq HGE12.out.symm); have HZ12wb := Lib.hid hat; have HBwb := Lib.hid (HBwr.out.trans (hbb.mono HBwr.out.size)); have HKwb := Lib.hid (HKwr.out.trans (hbb.mono HKwr.out.size)); clear hat hg hs hbb)
            | (with_reducible refine wpList_loadAll rfl 26 (.tmp 12) rfl g12 rfl _ _ _ (HZ12wb.out) Tryd.underlying26 rfl (HLG.out _) ?_)
            | (go_at_call 29; (with_reducible refine Calls.mono (HGR.out _) ?_); rintro e wc ⟨rfl, hb⟩; have HBwc := Lib.hid (HBwb.out.trans (hb.mono HBwb.out.size)); have HKwc := Lib.hid (HKwb.out.trans (hb.mono HKwb.out.size)); have HZ12wc := Lib.hid (HZ12wb.out.below hb HZ12wb.out.lt); have cca := HZ12wc.out.depth; have ccb := HZ12wc.out.pref; clear hb)
            | (go_at_call 23; (with_reducible refine Calls.mono (HOF.out _ HBwc.out) ?_); rintro e wd ⟨rfl, hb⟩; have HBwd := Lib.hid (HBwc.out.trans (hb.mono HBwc.out.size)); have HKwd := Lib.hid (HKwc.out.trans (hb.mono HKwc.out.size)); have HZ12wd := Lib.hid (HZ12wc.out.below hb HZ12wc.out.lt); clear hb cca ccb)
            | ((with_reducible refine wpList_allocZ (o := ⟨some 13, _, _, _, _, _⟩) 26 (encG default) rfl rfl zeroRng ?_); intro g13 we hg hat hb; have HAT13 := Lib.hid hat; have HBA13 := Lib.hid hb; have HGE13 := Lib.hid hg; clear hat hb hg)
            | ((with_reducible refine wpList_storeAll rfl 26 (.tmp 13) (.tmp 42) rfl g13 rfl _ _ (encG z) HAT13.out rfl (HLL.out _ _) (HLG.out _) (encG_one _) ?_); intro wf hat hg hs; have hbb := Below.ofGrown HBA13.out hg HBA13.out.size (Nat.le_of_eq HGE13.out.symm); have HZ13wf := Lib.hid hat; have HBwf := Lib.hid (HBwd.out.trans (hbb.mono HBwd.out.size)); have HKwf := Lib.hid (HKwd.out.trans (hbb.mono HKwd.out.size)); have HZ12wf := Lib.hid (HZ12wd.out.below hbb HZ12wd.out.lt); clear hat hg hs hbb; have cfa := HZ13wf.out.count; have cfb := HZ12wf.out.count; have cfc := HZ12wf.out.depth)
            | (with_reducible refine wpList_loadAll rfl 26 (.tmp 13) rfl g13 rfl _ _ _ (HZ13wf.out) Tryd.underlying26 rfl (HLG.out _) ?_)
            | (with_reducible refine wpList_loadAll rfl 26 (.tmp 12) rfl g12 rfl _ _ _ (HZ12wf.out) Tryd.underlying26 rfl (HLG.out _) ?_)
            | (with_reducible refine wpList_eq (.bool false) (by with_unfolding_all rfl) .eql 26 (.tmp 44) (.tmp 45) 26 rfl (.agg (encG z).toArray) (.agg (encG r).toArray) (by with_unfolding_all rfl) (by with_unfolding_all rfl) (fun w => run_eqGuard_rng w _ _ _ _ _) HEQ.out ?_)
            | (go_at_call 25; (with_reducible refine Calls.mono (HPT.out _ HBwf.out) ?_); rintro e wh ⟨A57, c57, rfl, _, hE, hb⟩; have HE57 := Lib.hid hE; have HBwh := Lib.hid (HBwf.out.trans (hb.mono HBwf.out.size)); have H3wh := Lib.hid (H3.out.below (HKwf.out.trans (hb.mono HKwf.out.size))); have hwhs := HBwh.out.size; clear hE hb cfa cfb cfc)
            | (at_builtin; refine wpList_append_enc (enc := encG) (k := 35) rfl rfl (.tmp 86) (.tmp 87) 45 26 56 rfl _ Tryd.underlying45 info3Rng rfl (by decide) w.heap.size v4 (N4) (S) (partsR z l) rfl H3wh.out.o4 (fun _ _ => encG_len _) (fun _ _ => encG_one _) A57 4 c57 rfl (four_parts z l) HE57.out (by unfold maxLen; simp [partsR]; omega) (by simp [partsR]; omega) hwhs ?_; intro v4' wi hO7 hg7 hob; rw [← four_parts z l] at hO7; have H3wi := Lib.hid (H3wh.out.app4 hO7 (by rw [List.length_append, ← H3wh.out.n4, ← four_parts z l]) hg7 hob); have HBwi := Lib.hid (own_below2 H3wh.out.o4 HBwh.out (Nat.le_refl _) hwhs hg7); clear hO7 hg7 hob))
          go_roundg (M - (i + 1))
          case measure => omega
          case rel => exact ⟨i + 1, N4 + 4, N5, N6, v4', v5, v6, S ++ partsR z l, I, K, rfl, rfl, rfl, by go_num, by omega, Nat.le_refl _, by omega, Nat.le_trans hN5 (Nat.mul_le_mul_left n (Nat.le_succ i)), by omega, HNX.out, H3wi.out, HBwi.out⟩
    · have hiM : i = M := by omega
      have hltz : ¬ (i : Int) < (M : Int) := by omega
      have hfull : foldA th l = (S, I, K) := by
        have h := HF.out
        unfold foldA
        by_cases h16 : th.length ≤ 16
        · rw [List.take_of_length_le h16]
          rw [List.take_of_length_le (by have := HM.out; rw [List.length_take] at this; omega)] at h
          exact h
        · have : i = 16 := by have := HM.out; rw [List.length_take] at this; omega
          rw [this] at h
          exact h
      have hxyz := HXYZ.out
      rw [hfull] at hxyz
      obtain ⟨hX, hY, hZ⟩ := hxyz
      have h3 := H3.out
      obtain ⟨A4, c4, rfl, hc4, hE4⟩ := h3.o4.rows h3.n4 (fun x _ => encG_len x)
      obtain ⟨A5, c5, rfl, hc5, hE5⟩ := h3.o5.rows h3.n5 (fun x _ => encR_len x)
      obtain ⟨A6, c6, rfl, hc6, hE6⟩ := h3.o6.rows h3.n6 (fun x _ => encG_len x)
      have HF4 := Lib.hid (reffirst_rngs A4 c4 N4 S wr h3.n4 hc4 hE4 (by omega) M4 (by rw [HM4.out, ← hX]))
      have HF5 := Lib.hid (reffirst_recs A5 c5 N5 I wr h3.n5 hc5 hE5 (by omega) M5 (by rw [HM5.out, ← hY]))
      have HF6 := Lib.hid (reffirst_rngs A6 c6 N6 K wr h3.n6 hc6 hE6 (by omega) M6 (by rw [HM6.out, ← hZ]))
      have hm4 : M4 ≤ c4 := by rw [HM4.out, ← hX, List.length_take, ← h3.n4]; omega
      have hm5 : M5 ≤ c5 := by rw [HM5.out, ← hY, List.length_take, ← h3.n5]; omega
      have hm6 : M6 ≤ c6 := by rw [HM6.out, ← hZ, List.length_take, ← h3.n6]; omega
      have HXX := Lib.hid (And.intro hX (And.intro hY hZ))
      clear h3 hE4 hE5 hE6 hfull hX hY hZ hiM HF H3
      go_wp2_with (first
        | (go_at_call 67; (with_reducible refine Calls.mono HF4.out ?_); rintro e w' ⟨A4', rfl, hE, _, rfl⟩; have HE4 := Lib.hid hE; clear hE)
        | (go_at_call 68; (with_reducible refine Calls.mono HF5.out ?_); rintro e w' ⟨A5', rfl, hE, _, rfl⟩; have HE5 := Lib.hid hE; clear hE)
        | (go_at_call 67; (with_reducible refine Calls.mono HF6.out ?_); rintro e w' ⟨A6', rfl, hE, _, rfl⟩; have HE6 := Lib.hid hE; clear hE))
      go_ret3
      have hxx := HXX.out
      rw [hxx.1] at HE4
      rw [hxx.2.1] at HE5
      rw [hxx.2.2] at HE6
      exact ⟨A4', A5', A6', c4, c5, c6, rfl, HE4.out, HE5.out, HE6.out, hm4, hm5, hm6, HBwr.out⟩
end Go.Proofs.YtefbllhpibfojaaDoor
