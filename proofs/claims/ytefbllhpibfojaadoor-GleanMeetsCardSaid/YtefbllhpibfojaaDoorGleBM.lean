/- Layer 16: Answer: what it computes. -/
import Derived.Test.YtefbllhpibfojaaDoorGlePM
namespace Go.Proofs.YtefbllhpibfojaaDoor
open Go.Proofs Stab Go.Shelf Go.RowKit Go.Lib Go.Sort

theorem parts_slice (r : Rng) (hq : goodB r = true) (h8 : r.depth ≠ 8) (A : Option Addr) (c n : Nat) (l : List Rec) (w : World) (hln : n = l.length) (hE : EncIn encR 65 w A l) (hn : n < 1073741824) (hwd : Tab w 0 (u32s Sha.words)) :
    Calls Tryd.prog 24 #[.agg (encG r).toArray, .slice A n c] w fun e w' => ∃ A' c', e = .returned (.tuple #[.slice A' 4 c', .int .i64 0]) ∧ 4 ≤ c' ∧ EncIn encG 35 w' A' (partsR r l) ∧ Below w.heap.size w w' := by
  subst hln
  refine (parts_good r hq h8 A c l w hE hn hwd).mono ?_
  rintro e w' ⟨v, rfl, hO, hb⟩
  obtain ⟨A', c', rfl, hc, hE'⟩ := hO.rows (by simp [partsR]) (fun x _ => encG_len x)
  exact ⟨A', c', rfl, hc, hE', hb⟩
theorem four_parts (z : Rng) (l : List Rec) : 4 = (partsR z l).length := by simp [partsR]
set_option maxRecDepth 100000 in
set_option maxHeartbeats 8000000 in
theorem answer_any (T : Option Addr) (ct tn : Nat) (th : List Rng) (A : Option Addr) (c n : Nat) (l : List Rec) (w : World) (htn : tn = th.length) (htc : tn ≤ ct) (hT : EncIn encG 35 w T th) (ht60 : tn < 1099511627776) (hln : n = l.length) (hE : EncIn encR 65 w A l) (hn : n ≤ 1000) (hwd : Tab w 0 (u32s Sha.words))
    (X : List Rng) (Y : List Rec) (Z : List Rng) (hX : (foldA th l).1.take 16 = X) (hY : (foldA th l).2.1.take 16 = Y) (hZ : (foldA th l).2.2.take 16 = Z) (M4 M5 M6 : Nat) (hM4 : M4 = X.length) (hM5 : M5 = Y.length) (hM6 : M6 = Z.length) :
    Calls Tryd.prog 32 #[.slice T tn ct, .slice A n c] w fun e w' => ∃ A4 A5 A6 c4 c5 c6, e = .returned (.tuple #[.slice A4 M4 c4, .slice A5 M5 c5, .slice A6 M6 c6]) ∧ EncIn encG 35 w' A4 X ∧ EncIn encR 65 w' A5 Y ∧ EncIn encG 35 w' A6 Z ∧ M4 ≤ c4 ∧ M5 ≤ c5 ∧ M6 ≤ c6 ∧ Below w.heap.size w w' := by
  have HE := Lib.hid (show ∀ W, Behind w W → EncIn encR 65 W A l from fun W h => hE.up h)
  have HWB := Lib.hid (show ∀ W, Behind w W → Tab W 0 (u32s Sha.words) from fun W h => hwd.below h hwd.lt)
  have HLN := Lib.hid hln
  have HLG := Lib.hid (show ∀ x, (Tryd.prog.info? 26).map (·.size) = some (encG x).length from fun x => by rw [encG_len]; exact infoRng)
  have HLL := Lib.hid (show ∀ x y, (encG x).length = (encG y).length from fun x y => by rw [encG_len, encG_len])
  have HGD := Lib.hid (show ∀ (r : Rng) W, Calls Tryd.prog 14 #[.agg (encG r).toArray] W fun e w' => e = .returned (.bool (goodB r)) ∧ Below W.heap.size W w' from fun r W => good_any r W)
  have HXYZ := Lib.hid (And.intro hX (And.intro hY hZ))
  have HM4 := Lib.hid hM4
  have HM5 := Lib.hid hM5
  have HM6 := Lib.hid hM6
  obtain ⟨M, hM⟩ : ∃ M, M = (th.take 16).length := ⟨_, rfl⟩
  have hM16 : M ≤ 16 := by rw [hM, List.length_take]; omega
  have HM := Lib.hid hM
  have HFT := Lib.hid (first_rngs T ct tn th w htn htc hT ht60 M hM)
  clear hE hwd hln hX hY hZ hM4 hM5 hM6 hM htn htc hT ht60
  go_enter Tryd.func32, Tryd.ntmps32
  go_wp2_with (first
    | (go_at_call 64; (with_reducible refine Calls.mono HFT.out ?_); rintro e w' ⟨A14, rfl, hE, rfl⟩; have HET := Lib.hid hE; clear hE))
  go_loopg [4, 5, 6, 16] M (fun gg s4 s5 s6 s16 wr => ∃ (i N4 N5 N6 : Nat) (v4 v5 v6 : Value) (S : List Rng) (I : List Rec) (K : List Rng), v4 = s4 ∧ v5 = s5 ∧ v6 = s6 ∧ s16 = .int .i64 i ∧ i ≤ M ∧ M - i ≤ gg ∧ N4 ≤ 4 * i ∧ N5 ≤ n * i ∧ N6 ≤ i ∧ Hid ((th.take i).foldl (stepA l) ([], [], []) = (S, I, K)) ∧ Hid (Three w.heap.size wr v4 v5 v6 N4 N5 N6 S I K) ∧ Hid (Below w.heap.size w wr))
  case atStart => exact ⟨0, 0, 0, 0, _, _, _, [], [], [], rfl, rfl, rfl, rfl, Nat.zero_le _, by omega, by omega, by omega, by omega, (show Hid _ from (rfl : (th.take 0).foldl (stepA l) ([], [], []) = ([], [], []))), (show Hid _ from Three.nil _ _), (show Hid _ from Below.refl _ _)⟩
  case round =>
    obtain ⟨i, N4, N5, N6, v4, v5, v6, S, I, K, hv4, hv5, hv6, rfl, hi, hgg, hN4, hN5, hN6, HF, H3, HBwr⟩ := hrel
    subst hv4 hv5 hv6
    have hN5b : N5 ≤ 16000 := Nat.le_trans hN5 (Nat.mul_le_mul hn (by omega : i ≤ 16))
    have HQ := Lib.hid (show Behind w wr from HBwr.out)
    have hws := HBwr.out.size
    by_cases hlt : i < M
    · have hltz : (i : Int) < (M : Int) := by omega
      have i0 : (0 : Int) ≤ (i : Int) := by omega
      have hit : i < (th.take 16).length := by have := HM.out; omega
      have hith : i < th.length := by rw [List.length_take] at hit; omega
      obtain ⟨gT, offT, hAT, hgT, hrgT⟩ := (HET.out).at hit
      obtain ⟨r, hr⟩ : ∃ r, r = th[i] := ⟨_, rfl⟩
      rw [List.getElem_take, ← hr] at hrgT
      have HRT := Lib.hid (range_below' hrgT HBwr.out hgT)
      have hfold := stepA_snoc l th i hith
      rw [HF.out, ← hr] at hfold
      have HFS := Lib.hid hfold
      have HKwr := Lib.hid (show Below wr.heap.size wr wr from Below.refl _ _)
      clear hrgT hr hfold hgT hit
      subst hAT
      have HGR := Lib.hid (HGD.out r)
      cases hg : goodB r with
      | false =>
        have HNX := Lib.hid (show (th.take (i + 1)).foldl (stepA l) ([], [], []) = (S, I, K) by rw [HFS.out, stepA_bad hg])
        rw [hg] at HGR
        clear hg
        go_wp2_with (first
          | (with_reducible refine wpList_loadW (by with_unfolding_all rfl) 26 (.tmp 18) rfl gT (offT + i * 35) (by with_unfolding_all rfl) (encG r) _ (HRT.out) Tryd.underlying26 (by with_unfolding_all rfl) (HLG.out _) ?_)
          | ((with_reducible refine wpList_allocZ (o := ⟨some 8, _, _, _, _, _⟩) 26 (encG default) rfl rfl zeroRng ?_); intro g8 wa hg hat hb; have HAT8 := Lib.hid hat; have HBA8 := Lib.hid hb; have HGE8 := Lib.hid hg; clear hat hb hg)
          | ((with_reducible refine wpList_storeAll rfl 26 (.tmp 8) (.tmp 19) rfl g8 rfl _ _ (encG r) HAT8.out rfl (HLL.out _ _) (HLG.out _) (encG_one _) ?_); intro wb hat hg hs; have hbb := Below.ofGrown HBA8.out hg HBA8.out.size (Nat.le_of_eq HGE8.out.symm); have HZ8wb := Lib.hid hat; have HBwb := Lib.hid (HBwr.out.trans (hbb.mono HBwr.out.size)); have HKwb := Lib.hid (HKwr.out.trans (hbb.mono HKwr.out.size)); clear hat hg hs hbb)
          | (with_reducible refine wpList_loadAll rfl 26 (.tmp 8) rfl g8 rfl _ _ _ (HZ8wb.out) Tryd.underlying26 rfl (HLG.out _) ?_)
          | (go_at_call 14; (with_reducible refine Calls.mono (HGR.out _) ?_); rintro e wc ⟨rfl, hb⟩; have HBwc := Lib.hid (HBwb.out.trans (hb.mono HBwb.out.size)); have HKwc := Lib.hid (HKwb.out.trans (hb.mono HKwb.out.size)); have HZ8wc := Lib.hid (HZ8wb.out.below hb HZ8wb.out.lt); clear hb))
        go_roundg (M - (i + 1))
        case measure => omega
        case rel => exact ⟨i + 1, N4, N5, N6, v4, v5, v6, S, I, K, rfl, rfl, rfl, by go_num, by omega, Nat.le_refl _, by omega, Nat.le_trans hN5 (Nat.mul_le_mul_left n (Nat.le_succ i)), by omega, HNX.out, H3.out.below HKwc.out, HBwc.out⟩
      | true =>
        have HG := Lib.hid hg
        rw [hg] at HGR
        have hpl : placeB r.depth r.pref = true := by unfold goodB at hg; rw [Bool.and_eq_true, Bool.and_eq_true] at hg; exact hg.1.1
        have hrc : 0 ≤ r.count ∧ r.count ≤ 1048576 := by unfold goodB at hg; rw [Bool.and_eq_true, Bool.and_eq_true, decide_eq_true_eq, decide_eq_true_eq] at hg; exact ⟨hg.1.2, hg.2⟩
        obtain ⟨z, hz⟩ : ∃ z, z = ofR r l := ⟨_, rfl⟩
        have hzg : goodB z = true := by rw [hz]; exact goodB_ofR hpl (by have := HLN.out; omega)
        have hzc : 0 ≤ z.count ∧ z.count ≤ 1048576 := by unfold goodB at hzg; rw [Bool.and_eq_true, Bool.and_eq_true, decide_eq_true_eq, decide_eq_true_eq] at hzg; exact ⟨hzg.1.2, hzg.2⟩
        have HZ := Lib.hid hz
        have HZG := Lib.hid hzg
        have HOF := Lib.hid (show ∀ W, Below w.heap.size w W → Calls Tryd.prog 15 #[.int .i64 r.depth, .int .i64 r.pref, .slice A n c] W fun e w' => e = .returned (.tuple #[.agg (encG z).toArray, .int .i64 0]) ∧ Below W.heap.size W w' from fun W hW => of_at r hpl A c n l W HLN.out (HE.out W hW) (by omega) (HWB.out W hW) z hz)
        have HSM := Lib.hid (show ∀ W, Calls Tryd.prog 65 #[.agg (encG z).toArray, .agg (encG r).toArray] W fun e w' => e = .returned (.bool (smallB z r)) ∧ Below W.heap.size W w' from fun W => small_any z r hzc hrc W)
        clear hg hpl hrc hz hzg hzc
        by_cases hzr : z = r
        · have HNX := Lib.hid (show (th.take (i + 1)).foldl (stepA l) ([], [], []) = (S, I, K) by rw [HFS.out, stepA_same (by rw [← HZ.out]; exact hzr)])
          have HEQ := Lib.hid (show ∀ w, (binOp .eql 26 (.agg (encG z).toArray) (.agg (encG r).toArray)).run Tryd.prog w = .ok (.bool true) w from fun w => by have h := run_eql_rng w z r; rw [decide_eq_true hzr] at h; exact h)
          clear hzr
          go_wp2_with (first
            | (with_reducible refine wpList_loadW (by with_unfolding_all rfl) 26 (.tmp 18) rfl gT (offT + i * 35) (by with_unfolding_all rfl) (encG r) _ (HRT.out) Tryd.underlying26 (by with_unfolding_all rfl) (HLG.out _) ?_)
            | ((with_reducible refine wpList_allocZ (o := ⟨some 8, _, _, _, _, _⟩) 26 (encG default) rfl rfl zeroRng ?_); intro g8 wa hg hat hb; have HAT8 := Lib.hid hat; have HBA8 := Lib.hid hb; have HGE8 := Lib.hid hg; clear hat hb hg)
            | ((with_reducible refine wpList_storeAll rfl 26 (.tmp 8) (.tmp 19) rfl g8 rfl _ _ (encG r) HAT8.out rfl (HLL.out _ _) (HLG.out _) (encG_one _) ?_); intro wb hat hg hs; have hbb := Below.ofGrown HBA8.out hg HBA8.out.size (Nat.le_of_eq HGE8.out.symm); have HZ8wb := Lib.hid hat; have HBwb := Lib.hid (HBwr.out.trans (hbb.mono HBwr.out.size)); have HKwb := Lib.hid (HKwr.out.trans (hbb.mono HKwr.out.size)); clear hat hg hs hbb)
            | (with_reducible refine wpList_loadAll rfl 26 (.tmp 8) rfl g8 rfl _ _ _ (HZ8wb.out) Tryd.underlying26 rfl (HLG.out _) ?_)
            | (go_at_call 14; (with_reducible refine Calls.mono (HGR.out _) ?_); rintro e wc ⟨rfl, hb⟩; have HBwc := Lib.hid (HBwb.out.trans (hb.mono HBwb.out.size)); have HKwc := Lib.hid (HKwb.out.trans (hb.mono HKwb.out.size)); have HZ8wc := Lib.hid (HZ8wb.out.below hb HZ8wb.out.lt); have cca := HZ8wc.out.depth; have ccb := HZ8wc.out.pref; clear hb)
            | (go_at_call 15; (with_reducible refine Calls.mono (HOF.out _ HBwc.out) ?_); rintro e wd ⟨rfl, hb⟩; have HBwd := Lib.hid (HBwc.out.trans (hb.mono HBwc.out.size)); have HKwd := Lib.hid (HKwc.out.trans (hb.mono HKwc.out.size)); have HZ8wd := Lib.hid (HZ8wc.out.below hb HZ8wc.out.lt); clear hb cca ccb)
            | ((with_reducible refine wpList_allocZ (o := ⟨some 9, _, _, _, _, _⟩) 26 (encG default) rfl rfl zeroRng ?_); intro g9 we hg hat hb; have HAT9 := Lib.hid hat; have HBA9 := Lib.hid hb; have HGE9 := Lib.hid hg; clear hat hb hg)
            | ((with_reducible refine wpList_storeAll rfl 26 (.tmp 9) (.tmp 30) rfl g9 rfl _ _ (encG z) HAT9.out rfl (HLL.out _ _) (HLG.out _) (encG_one _) ?_); intro wf hat hg hs; have hbb := Below.ofGrown HBA9.out hg HBA9.out.size (Nat.le_of_eq HGE9.out.symm); have HZ9wf := Lib.hid hat; have HBwf := Lib.hid (HBwd.out.trans (hbb.mono HBwd.out.size)); have HKwf := Lib.hid (HKwd.out.trans (hbb.mono HKwd.out.size)); have HZ8wf := Lib.hid (HZ8wd.out.below hbb HZ8wd.out.lt); clear hat hg hs hbb)
            | (with_reducible refine wpList_loadAll rfl 26 (.tmp 9) rfl g9 rfl _ _ _ (HZ9wf.out) Tryd.underlying26 rfl (HLG.out _) ?_)
            | (with_reducible refine wpList_loadAll rfl 26 (.tmp 8) rfl g8 rfl _ _ _ (HZ8wf.out) Tryd.underlying26 rfl (HLG.out _) ?_)
            | (with_reducible refine wpList_eq (.bool true) (by with_unfolding_all rfl) .eql 26 (.tmp 45) (.tmp 46) 26 rfl (.agg (encG z).toArray) (.agg (encG r).toArray) (by with_unfolding_all rfl) (by with_unfolding_all rfl) (fun w => run_eqGuard_rng w _ _ _ _ _) HEQ.out ?_))
          go_roundg (M - (i + 1))
          case measure => omega
          case rel => exact ⟨i + 1, N4, N5, N6, v4, v5, v6, S, I, K, rfl, rfl, rfl, by go_num, by omega, Nat.le_refl _, by omega, Nat.le_trans hN5 (Nat.mul_le_mul_left n (Nat.le_succ i)), by omega, HNX.out, H3.out.below HKwf.out, HBwf.out⟩
        have HEQ := Lib.hid (show ∀ w, (binOp .eql 26 (.agg (encG z).toArray) (.agg (encG r).toArray)).run Tryd.prog w = .ok (.bool false) w from fun w => by have h := run_eql_rng w z r; rw [decide_eq_false hzr] at h; exact h)
        have HNE := Lib.hid (show ofR r l ≠ r by rw [← HZ.out]; exact hzr)
        clear hzr
        have hN5x : n * i + n = n * (i + 1) := by rw [Nat.mul_succ]
        cases hs : smallB z r with
        | true =>
          rw [hs] at HSM
          obtain ⟨NI, hNI⟩ : ∃ N, N = (itemsR r l).length := ⟨_, rfl⟩
          have hNIn : NI ≤ n := by have h1 := itemsR_len r l; have h2 := HLN.out; omega
          have HNI := Lib.hid hNI
          have HIT := Lib.hid (show ∀ W, Below w.heap.size w W → Calls Tryd.prog 17 #[.agg (encG r).toArray, .slice A n c] W fun e w' => ∃ A' c', e = .returned (.slice A' NI c') ∧ NI ≤ c' ∧ EncIn encR 65 w' A' (itemsR r l) ∧ Below W.heap.size W w' from fun W hW => items_slice r A c l W n NI HLN.out hNI (HE.out W hW) (by omega))
          clear hNI
          by_cases hc : 0 < r.count
          · have HNX := Lib.hid (show (th.take (i + 1)).foldl (stepA l) ([], [], []) = (S, I ++ itemsR r l, K ++ [z]) by rw [HFS.out, HZ.out, stepA_small HG.out HNE.out (by rw [← HZ.out]; exact hs) hc])
            clear hs
            go_wp2_with (first
              | (with_reducible refine wpList_loadW (by with_unfolding_all rfl) 26 (.tmp 18) rfl gT (offT + i * 35) (by with_unfolding_all rfl) (encG r) _ (HRT.out) Tryd.underlying26 (by with_unfolding_all rfl) (HLG.out _) ?_)
              | ((with_reducible refine wpList_allocZ (o := ⟨some 8, _, _, _, _, _⟩) 26 (encG default) rfl rfl zeroRng ?_); intro g8 wa hg hat hb; have HAT8 := Lib.hid hat; have HBA8 := Lib.hid hb; have HGE8 := Lib.hid hg; clear hat hb hg)
              | ((with_reducible refine wpList_storeAll rfl 26 (.tmp 8) (.tmp 19) rfl g8 rfl _ _ (encG r) HAT8.out rfl (HLL.out _ _) (HLG.out _) (encG_one _) ?_); intro wb hat hg hs; have hbb := Below.ofGrown HBA8.out hg HBA8.out.size (Nat.le_of_eq HGE8.out.symm); have HZ8wb := Lib.hid hat; have HBwb := Lib.hid (HBwr.out.trans (hbb.mono HBwr.out.size)); have HKwb := Lib.hid (HKwr.out.trans (hbb.mono HKwr.out.size)); clear hat hg hs hbb)
              | (with_reducible refine wpList_loadAll rfl 26 (.tmp 8) rfl g8 rfl _ _ _ (HZ8wb.out) Tryd.underlying26 rfl (HLG.out _) ?_)
              | (go_at_call 14; (with_reducible refine Calls.mono (HGR.out _) ?_); rintro e wc ⟨rfl, hb⟩; have HBwc := Lib.hid (HBwb.out.trans (hb.mono HBwb.out.size)); have HKwc := Lib.hid (HKwb.out.trans (hb.mono HKwb.out.size)); have HZ8wc := Lib.hid (HZ8wb.out.below hb HZ8wb.out.lt); have cca := HZ8wc.out.depth; have ccb := HZ8wc.out.pref; clear hb)
              | (go_at_call 15; (with_reducible refine Calls.mono (HOF.out _ HBwc.out) ?_); rintro e wd ⟨rfl, hb⟩; have HBwd := Lib.hid (HBwc.out.trans (hb.mono HBwc.out.size)); have HKwd := Lib.hid (HKwc.out.trans (hb.mono HKwc.out.size)); have HZ8wd := Lib.hid (HZ8wc.out.below hb HZ8wc.out.lt); clear hb cca ccb)
              | ((with_reducible refine wpList_allocZ (o := ⟨some 9, _, _, _, _, _⟩) 26 (encG default) rfl rfl zeroRng ?_); intro g9 we hg hat hb; have HAT9 := Lib.hid hat; have HBA9 := Lib.hid hb; have HGE9 := Lib.hid hg; clear hat hb hg)
              | ((with_reducible refine wpList_storeAll rfl 26 (.tmp 9) (.tmp 30) rfl g9 rfl _ _ (encG z) HAT9.out rfl (HLL.out _ _) (HLG.out _) (encG_one _) ?_); intro wf hat hg hs; have hbb := Below.ofGrown HBA9.out hg HBA9.out.size (Nat.le_of_eq HGE9.out.symm); have HZ9wf := Lib.hid hat; have HBwf := Lib.hid (HBwd.out.trans (hbb.mono HBwd.out.size)); have HKwf := Lib.hid (HKwd.out.trans (hbb.mono HKwd.out.size)); have HZ8wf := Lib.hid (HZ8wd.out.below hbb HZ8wd.out.lt); clear hat hg hs hbb)
              | (with_reducible refine wpList_loadAll rfl 26 (.tmp 9) rfl g9 rfl _ _ _ (HZ9wf.out) Tryd.underlying26 rfl (HLG.out _) ?_)
              | (with_reducible refine wpList_loadAll rfl 26 (.tmp 8) rfl g8 rfl _ _ _ (HZ8wf.out) Tryd.underlying26 rfl (HLG.out _) ?_)
              | (with_reducible refine wpList_eq (.bool false) (by with_unfolding_all rfl) .eql 26 (.tmp 45) (.tmp 46) 26 rfl (.agg (encG z).toArray) (.agg (encG r).toArray) (by with_unfolding_all rfl) (by with_unfolding_all rfl) (fun w => run_eqGuard_rng w _ _ _ _ _) HEQ.out ?_)
              | (go_at_call 65; (with_reducible refine Calls.mono (HSM.out _) ?_); rintro e wg ⟨rfl, hb⟩; have HBwg := Lib.hid (HBwf.out.trans (hb.mono HBwf.out.size)); have HKwg := Lib.hid (HKwf.out.trans (hb.mono HKwf.out.size)); have HZ8wg := Lib.hid (HZ8wf.out.below hb HZ8wf.out.lt); have HZ9wg := Lib.hid (HZ9wf.out.below hb HZ9wf.out.lt); clear hb)
              | (with_reducible refine wpList_loadAll rfl 26 (.tmp 8) rfl g8 rfl _ _ _ (HZ8wg.out) Tryd.underlying26 rfl (HLG.out _) ?_)
              | (go_at_call 17; (with_reducible refine Calls.mono (HIT.out _ HBwg.out) ?_); rintro e wh ⟨A35, c35, rfl, _, hE, hb⟩; have HE35 := Lib.hid hE; have HBwh := Lib.hid (HBwg.out.trans (hb.mono HBwg.out.size)); have HKwh := Lib.hid (HKwg.out.trans (hb.mono HKwg.out.size)); have HZ8wh := Lib.hid (HZ8wg.out.below hb HZ8wg.out.lt); have HZ9wh := Lib.hid (HZ9wg.out.below hb HZ9wg.out.lt); have H3wh := Lib.hid (H3.out.below HKwh.out); have hwhs := HBwh.out.size; have HN8 := Lib.hid (show w.heap.size ≤ g8 ∧ w.heap.size ≤ g9 ∧ (∀ v : Value, (∀ k, v.ownBlock = some k → k < wr.heap.size) → some g8 ≠ v.ownBlock ∧ some g9 ≠ v.ownBlock) from ⟨by have := HGE8.out; omega, by have := HGE9.out; have := HKwd.out.size; omega, fun v hv => ⟨fun e => by have := hv _ e.symm; have := HGE8.out; omega, fun e => by have := hv _ e.symm; have := HGE9.out; have := HKwd.out.size; omega⟩⟩); clear hE hb)
              | (at_builtin; refine wpList_append_enc (enc := encR) (k := 65) rfl rfl (.tmp 32) (.tmp 35) 22 38 72 rfl _ Tryd.underlying22 info3Rec rfl (by decide) w.heap.size v5 (N5) (I) (itemsR r l) rfl H3wh.out.o5 (fun _ _ => encR_len _) (fun _ _ => encR_one _) A35 NI c35 rfl HNI.out HE35.out (by rw [← HNI.out]; unfold maxLen; omega) (by rw [← HNI.out]; omega) hwhs ?_; intro v5' wi hO7 hg7 hob; rw [← HNI.out] at hO7; have H3wi := Lib.hid (H3wh.out.app5 hO7 (by rw [List.length_append, ← H3wh.out.n5, HNI.out]) hg7 hob); have HBwi := Lib.hid (own_below2 H3wh.out.o5 HBwh.out (Nat.le_refl _) hwhs hg7); have HZ8wi := Lib.hid (HZ8wh.out.grown hg7 (HN8.out.2.2 v5 (fun k hk => (H3.out.o5.lt k hk).2)).1); have HZ9wi := Lib.hid (HZ9wh.out.grown hg7 (HN8.out.2.2 v5 (fun k hk => (H3.out.o5.lt k hk).2)).2); have ci := HZ8wi.out.count; clear hO7 hg7 hob)
              | (with_reducible refine wpList_loadAll rfl 26 (.tmp 9) rfl g9 rfl _ _ _ (HZ9wi.out) Tryd.underlying26 rfl (HLG.out _) ?_)
              | ((with_reducible refine wpList_one rfl 45 26 35 z (.tmp 41) rfl (by with_unfolding_all rfl) Tryd.underlying45 info2Rng (by decide) (by decide) (encG_len z) ?_); intro g42 wj hg hb hE; have HEO := Lib.hid hE; have H3wj := Lib.hid (H3wi.out.below hb); have HBwj := Lib.hid (HBwi.out.trans (hb.mono HBwi.out.size)); have hwjs := HBwj.out.size; clear hg hb hE)
              | (at_builtin; refine wpList_append_enc (enc := encG) (k := 35) rfl rfl (.tmp 40) (.tmp 42) 45 26 56 rfl _ Tryd.underlying45 info3Rng rfl (by decide) w.heap.size v6 (N6) (K) ([z]) rfl H3wj.out.o6 (fun _ _ => encG_len _) (fun _ _ => encG_one _) (some ⟨g42, 0, none⟩) 1 1 rfl (show 1 = [z].length from rfl) HEO.out (by unfold maxLen; simp; omega) (by simp; omega) hwjs ?_; intro v6' wk hO7 hg7 hob; have H3wk := Lib.hid (H3wj.out.app6 hO7 (by rw [List.length_append, ← H3wj.out.n6]) hg7 hob); have HBwk := Lib.hid (own_below2 H3wj.out.o6 HBwj.out (Nat.le_refl _) hwjs hg7); clear hO7 hg7 hob))
            go_roundg (M - (i + 1))
            case measure => omega
            case rel => exact ⟨i + 1, N4, N5 + NI, N6 + 1, v4, v5', v6', S, I ++ itemsR r l, K ++ [z], rfl, rfl, rfl, by go_num, by omega, Nat.le_refl _, by omega, by omega, by omega, HNX.out, H3wk.out, HBwk.out⟩
          · have HNX := Lib.hid (show (th.take (i + 1)).foldl (stepA l) ([], [], []) = (S, I ++ itemsR r l, K) by rw [HFS.out, stepA_small0 HG.out HNE.out (by rw [← HZ.out]; exact hs) hc])
            clear hs
            go_wp2_with (first
              | (with_reducible refine wpList_loadW (by with_unfolding_all rfl) 26 (.tmp 18) rfl gT (offT + i * 35) (by with_unfolding_all rfl) (encG r) _ (HRT.out) Tryd.underlying26 (by with_unfolding_all rfl) (HLG.out _) ?_)
              | ((with_reducible refine wpList_allocZ (o := ⟨some 8, _, _, _, _, _⟩) 26 (encG default) rfl rfl zeroRng ?_); intro g8 wa hg hat hb; have HAT8 := Lib.hid hat; have HBA8 := Lib.hid hb; have HGE8 := Lib.hid hg; clear hat hb hg)
              | ((with_reducible refine wpList_storeAll rfl 26 (.tmp 8) (.tmp 19) rfl g8 rfl _ _ (encG r) HAT8.out rfl (HLL.out _ _) (HLG.out _) (encG_one _) ?_); intro wb hat hg hs; have hbb := Below.ofGrown HBA8.out hg HBA8.out.size (Nat.le_of_eq HGE8.out.symm); have HZ8wb := Lib.hid hat; have HBwb := Lib.hid (HBwr.out.trans (hbb.mono HBwr.out.size)); have HKwb := Lib.hid (HKwr.out.trans (hbb.mono HKwr.out.size)); clear hat hg hs hbb)
              | (with_reducible refine wpList_loadAll rfl 26 (.tmp 8) rfl g8 rfl _ _ _ (HZ8wb.out) Tryd.underlying26 rfl (HLG.out _) ?_)
              | (go_at_call 14; (with_reducible refine Calls.mono (HGR.out _) ?_); rintro e wc ⟨rfl, hb⟩; have HBwc := Lib.hid (HBwb.out.trans (hb.mono HBwb.out.size)); have HKwc := Lib.hid (HKwb.out.trans (hb.mono HKwb.out.size)); have HZ8wc := Lib.hid (HZ8wb.out.below hb HZ8wb.out.lt); have cca := HZ8wc.out.depth; have ccb := HZ8wc.out.pref; clear hb)
              | (go_at_call 15; (with_reducible refine Calls.mono (HOF.out _ HBwc.out) ?_); rintro e wd ⟨rfl, hb⟩; have HBwd := Lib.hid (HBwc.out.trans (hb.mono HBwc.out.size)); have HKwd := Lib.hid (HKwc.out.trans (hb.mono HKwc.out.size)); have HZ8wd := Lib.hid (HZ8wc.out.below hb HZ8wc.out.lt); clear hb cca ccb)
              | ((with_reducible refine wpList_allocZ (o := ⟨some 9, _, _, _, _, _⟩) 26 (encG default) rfl rfl zeroRng ?_); intro g9 we hg hat hb; have HAT9 := Lib.hid hat; have HBA9 := Lib.hid hb; have HGE9 := Lib.hid hg; clear hat hb hg)
              | ((with_reducible refine wpList_storeAll rfl 26 (.tmp 9) (.tmp 30) rfl g9 rfl _ _ (encG z) HAT9.out rfl (HLL.out _ _) (HLG.out _) (encG_one _) ?_); intro wf hat hg hs; have hbb := Below.ofGrown HBA9.out hg HBA9.out.size (Nat.le_of_eq HGE9.out.symm); have HZ9wf := Lib.hid hat; have HBwf := Lib.hid (HBwd.out.trans (hbb.mono HBwd.out.size)); have HKwf := Lib.hid (HKwd.out.trans (hbb.mono HKwd.out.size)); have HZ8wf := Lib.hid (HZ8wd.out.below hbb HZ8wd.out.lt); clear hat hg hs hbb)
              | (with_reducible refine wpList_loadAll rfl 26 (.tmp 9) rfl g9 rfl _ _ _ (HZ9wf.out) Tryd.underlying26 rfl (HLG.out _) ?_)
              | (with_reducible refine wpList_loadAll rfl 26 (.tmp 8) rfl g8 rfl _ _ _ (HZ8wf.out) Tryd.underlying26 rfl (HLG.out _) ?_)
              | (with_reducible refine wpList_eq (.bool false) (by with_unfolding_all rfl) .eql 26 (.tmp 45) (.tmp 46) 26 rfl (.agg (encG z).toArray) (.agg (encG r).toArray) (by with_unfolding_all rfl) (by with_unfolding_all rfl) (fun w => run_eqGuard_rng w _ _ _ _ _) HEQ.out ?_)
              | (go_at_call 65; (with_reducible refine Calls.mono (HSM.out _) ?_); rintro e wg ⟨rfl, hb⟩; have HBwg := Lib.hid (HBwf.out.trans (hb.mono HBwf.out.size)); have HKwg := Lib.hid (HKwf.out.trans (hb.mono HKwf.out.size)); have HZ8wg := Lib.hid (HZ8wf.out.below hb HZ8wf.out.lt); have HZ9wg := Lib.hid (HZ9wf.out.below hb HZ9wf.out.lt); clear hb)
              | (with_reducible refine wpList_loadAll rfl 26 (.tmp 8) rfl g8 rfl _ _ _ (HZ8wg.out) Tryd.underlying26 rfl (HLG.out _) ?_)
              | (go_at_call 17; (with_reducible refine Calls.mono (HIT.out _ HBwg.out) ?_); rintro e wh ⟨A35, c35, rfl, _, hE, hb⟩; have HE35 := Lib.hid hE; have HBwh := Lib.hid (HBwg.out.trans (hb.mono HBwg.out.size)); have HKwh := Lib.hid (HKwg.out.trans (hb.mono HKwg.out.size)); have HZ8wh := Lib.hid (HZ8wg.out.below hb HZ8wg.out.lt); have HZ9wh := Lib.hid (HZ9wg.out.below hb HZ9wg.out.lt); have H3wh := Lib.hid (H3.out.below HKwh.out); have hwhs := HBwh.out.size; have HN8 := Lib.hid (show w.heap.size ≤ g8 ∧ w.heap.size ≤ g9 ∧ (∀ v : Value, (∀ k, v.ownBlock = some k → k < wr.heap.size) → some g8 ≠ v.ownBlock ∧ some g9 ≠ v.ownBlock) from ⟨by have := HGE8.out; omega, by have := HGE9.out; have := HKwd.out.size; omega, fun v hv => ⟨fun e => by have := hv _ e.symm; have := HGE8.out; omega, fun e => by have := hv _ e.symm; have := HGE9.out; have := HKwd.out.size; omega⟩⟩); clear hE hb)
              | (at_builtin; refine wpList_append_enc (enc := encR) (k := 65) rfl rfl (.tmp 32) (.tmp 35) 22 38 72 rfl _ Tryd.underlying22 info3Rec rfl (by decide) w.heap.size v5 (N5) (I) (itemsR r l) rfl H3wh.out.o5 (fun _ _ => encR_len _) (fun _ _ => encR_one _) A35 NI c35 rfl HNI.out HE35.out (by rw [← HNI.out]; unfold maxLen; omega) (by rw [← HNI.out]; omega) hwhs ?_; intro v5' wi hO7 hg7 hob; rw [← HNI.out] at hO7; have H3wi := Lib.hid (H3wh.out.app5 hO7 (by rw [List.length_append, ← H3wh.out.n5, HNI.out]) hg7 hob); have HBwi := Lib.hid (own_below2 H3wh.out.o5 HBwh.out (Nat.le_refl _) hwhs hg7); have HZ8wi := Lib.hid (HZ8wh.out.grown hg7 (HN8.out.2.2 v5 (fun k hk => (H3.out.o5.lt k hk).2)).1); have HZ9wi := Lib.hid (HZ9wh.out.grown hg7 (HN8.out.2.2 v5 (fun k hk => (H3.out.o5.lt k hk).2)).2); have ci := HZ8wi.out.count; clear hO7 hg7 hob))
            go_roundg (M - (i + 1))
            case measure => omega
            case rel => exact ⟨i + 1, N4, N5 + NI, N6, v4, v5', v6, S, I ++ itemsR r l, K, rfl, rfl, rfl, by go_num, by omega, Nat.le_refl _, by omega, by omega, by omega, HNX.out, H3wi.out, HBwi.out⟩
        | false =>
          rw [hs] at HSM
          have HPT := Lib.hid (show ∀ W, Below w.heap.size w W → Calls Tryd.prog 24 #[.agg (encG z).toArray, .slice A n c] W fun e w' => ∃ A' c', e = .returned (.tuple #[.slice A' 4 c', .int .i64 0]) ∧ 4 ≤ c' ∧ EncIn encG 35 w' A' (partsR z l) ∧ Below W.heap.size W w' from fun W hW => parts_slice z HZG.out (small_depth hs) A c n l W HLN.out (HE.out W hW) (by omega) (HWB.out W hW))
          have HNX := Lib.hid (show (th.take (i + 1)).foldl (stepA l) ([], [], []) = (S ++ partsR z l, I, K) by rw [HFS.out, HZ.out, stepA_big HG.out HNE.out (by rw [← HZ.out]; exact hs)])
          clear hs
          go_wp2_with (first
            | (with_reducible refine wpList_loadW (by with_unfolding_all rfl) 26 (.tmp 18) rfl gT (offT + i * 35) (by with_unfolding_all rfl) (encG r) _ (HRT.out) Tryd.underlying26 (by with_unfolding_all rfl) (HLG.out _) ?_)
            | ((with_reducible refine wpList_allocZ (o := ⟨some 8, _, _, _, _, _⟩) 26 (encG default) rfl rfl zeroRng ?_); intro g8 wa hg hat hb; have HAT8 := Lib.hid hat; have HBA8 := Lib.hid hb; have HGE8 := Lib.hid hg; clear hat hb hg)
            | ((with_reducible refine wpList_storeAll rfl 26 (.tmp 8) (.tmp 19) rfl g8 rfl _ _ (encG r) HAT8.out rfl (HLL.out _ _) (HLG.out _) (encG_one _) ?_); intro wb hat hg hs; have hbb := Below.ofGrown HBA8.out hg HBA8.out.size (Nat.le_of_eq HGE8.out.symm); have HZ8wb := Lib.hid hat; have HBwb := Lib.hid (HBwr.out.trans (hbb.mono HBwr.out.size)); have HKwb := Lib.hid (HKwr.out.trans (hbb.mono HKwr.out.size)); clear hat hg hs hbb)
            | (with_reducible refine wpList_loadAll rfl 26 (.tmp 8) rfl g8 rfl _ _ _ (HZ8wb.out) Tryd.underlying26 rfl (HLG.out _) ?_)
            | (go_at_call 14; (with_reducible refine Calls.mono (HGR.out _) ?_); rintro e wc ⟨rfl, hb⟩; have HBwc := Lib.hid (HBwb.out.trans (hb.mono HBwb.out.size)); have HKwc := Lib.hid (HKwb.out.trans (hb.mono HKwb.out.size)); have HZ8wc := Lib.hid (HZ8wb.out.below hb HZ8wb.out.lt); have cca := HZ8wc.out.depth; have ccb := HZ8wc.out.pref; clear hb)
            | (go_at_call 15; (with_reducible refine Calls.mono (HOF.out _ HBwc.out) ?_); rintro e wd ⟨rfl, hb⟩; have HBwd := Lib.hid (HBwc.out.trans (hb.mono HBwc.out.size)); have HKwd := Lib.hid (HKwc.out.trans (hb.mono HKwc.out.size)); have HZ8wd := Lib.hid (HZ8wc.out.below hb HZ8wc.out.lt); clear hb cca ccb)
            | ((with_reducible refine wpList_allocZ (o := ⟨some 9, _, _, _, _, _⟩) 26 (encG default) rfl rfl zeroRng ?_); intro g9 we hg hat hb; have HAT9 := Lib.hid hat; have HBA9 := Lib.hid hb; have HGE9 := Lib.hid hg; clear hat hb hg)
            | ((with_reducible refine wpList_storeAll rfl 26 (.tmp 9) (.tmp 30) rfl g9 rfl _ _ (encG z) HAT9.out rfl (HLL.out _ _) (HLG.out _) (encG_one _) ?_); intro wf hat hg hs; have hbb := Below.ofGrown HBA9.out hg HBA9.out.size (Nat.le_of_eq HGE9.out.symm); have HZ9wf := Lib.hid hat; have HBwf := Lib.hid (HBwd.out.trans (hbb.mono HBwd.out.size)); have HKwf := Lib.hid (HKwd.out.trans (hbb.mono HKwd.out.size)); have HZ8wf := Lib.hid (HZ8wd.out.below hbb HZ8wd.out.lt); clear hat hg hs hbb)
            | (with_reducible refine wpList_loadAll rfl 26 (.tmp 9) rfl g9 rfl _ _ _ (HZ9wf.out) Tryd.underlying26 rfl (HLG.out _) ?_)
            | (with_reducible refine wpList_loadAll rfl 26 (.tmp 8) rfl g8 rfl _ _ _ (HZ8wf.out) Tryd.underlying26 rfl (HLG.out _) ?_)
            | (with_reducible refine wpList_eq (.bool false) (by with_unfolding_all rfl) .eql 26 (.tmp 45) (.tmp 46) 26 rfl (.agg (encG z).toArray) (.agg (encG r).toArray) (by with_unfolding_all rfl) (by with_unfolding_all rfl) (fun w => run_eqGuard_rng w _ _ _ _ _) HEQ.out ?_)
            | (go_at_call 65; (with_reducible refine Calls.mono (HSM.out _) ?_); rintro e wg ⟨rfl, hb⟩; have HBwg := Lib.hid (HBwf.out.trans (hb.mono HBwf.out.size)); have HKwg := Lib.hid (HKwf.out.trans (hb.mono HKwf.out.size)); have HZ8wg := Lib.hid (HZ8wf.out.below hb HZ8wf.out.lt); have HZ9wg := Lib.hid (HZ9wf.out.below hb HZ9wf.out.lt); clear hb)
            | (with_reducible refine wpList_loadAll rfl 26 (.tmp 9) rfl g9 rfl _ _ _ (HZ9wg.out) Tryd.underlying26 rfl (HLG.out _) ?_)
            | (go_at_call 24; (with_reducible refine Calls.mono (HPT.out _ HBwg.out) ?_); rintro e wh ⟨A57, c57, rfl, _, hE, hb⟩; have HE57 := Lib.hid hE; have HBwh := Lib.hid (HBwg.out.trans (hb.mono HBwg.out.size)); have H3wh := Lib.hid (H3.out.below (HKwg.out.trans (hb.mono HKwg.out.size))); have hwhs := HBwh.out.size; clear hE hb)
            | (at_builtin; refine wpList_append_enc (enc := encG) (k := 35) rfl rfl (.tmp 59) (.tmp 60) 45 26 56 rfl _ Tryd.underlying45 info3Rng rfl (by decide) w.heap.size v4 (N4) (S) (partsR z l) rfl H3wh.out.o4 (fun _ _ => encG_len _) (fun _ _ => encG_one _) A57 4 c57 rfl (four_parts z l) HE57.out (by unfold maxLen; simp [partsR]; omega) (by simp [partsR]; omega) hwhs ?_; intro v4' wi hO7 hg7 hob; rw [← four_parts z l] at hO7; have H3wi := Lib.hid (H3wh.out.app4 hO7 (by rw [List.length_append, ← H3wh.out.n4, ← four_parts z l]) hg7 hob); have HBwi := Lib.hid (own_below2 H3wh.out.o4 HBwh.out (Nat.le_refl _) hwhs hg7); clear hO7 hg7 hob))
          go_roundg (M - (i + 1))
          case measure => omega
          case rel => exact ⟨i + 1, N4 + 4, N5, N6, v4', v5, v6, S ++ partsR z l, I, K, rfl, rfl, rfl, by go_num, by omega, Nat.le_refl _, by omega, Nat.le_trans hN5 (Nat.mul_le_mul_left n (Nat.le_succ i)), by omega, HNX.out, H3wi.out, HBwi.out⟩
    · have hiM : i = M := by omega
      have hltz : ¬ (i : Int) < (M : Int) := by omega
      have hfull : foldA th l = (S, I, K) := by
        have h := HF.out
        unfold foldA
        by_cases h16 : th.length ≤ 16
        · rw [List.take_of_length_le h16]
          rw [List.take_of_length_le (by have := HM.out; rw [List.length_take] at this; omega)] at h
          exact h
        · have : i = 16 := by have := HM.out; rw [List.length_take] at this; omega
          rw [this] at h
          exact h
      have hxyz := HXYZ.out
      rw [hfull] at hxyz
      obtain ⟨hX, hY, hZ⟩ := hxyz
      have h3 := H3.out
      obtain ⟨A4, c4, rfl, hc4, hE4⟩ := h3.o4.rows h3.n4 (fun x _ => encG_len x)
      obtain ⟨A5, c5, rfl, hc5, hE5⟩ := h3.o5.rows h3.n5 (fun x _ => encR_len x)
      obtain ⟨A6, c6, rfl, hc6, hE6⟩ := h3.o6.rows h3.n6 (fun x _ => encG_len x)
      have HF4 := Lib.hid (first_rngs A4 c4 N4 S wr h3.n4 hc4 hE4 (by omega) M4 (by rw [HM4.out, ← hX]))
      have HF5 := Lib.hid (first_recs A5 c5 N5 I wr h3.n5 hc5 hE5 (by omega) M5 (by rw [HM5.out, ← hY]))
      have HF6 := Lib.hid (first_rngs A6 c6 N6 K wr h3.n6 hc6 hE6 (by omega) M6 (by rw [HM6.out, ← hZ]))
      have hm4 : M4 ≤ c4 := by rw [HM4.out, ← hX, List.length_take, ← h3.n4]; omega
      have hm5 : M5 ≤ c5 := by rw [HM5.out, ← hY, List.length_take, ← h3.n5]; omega
      have hm6 : M6 ≤ c6 := by rw [HM6.out, ← hZ, List.length_take, ← h3.n6]; omega
      have HXX := Lib.hid (And.intro hX (And.intro hY hZ))
      clear h3 hE4 hE5 hE6 hfull hX hY hZ hiM HF H3
      go_wp2_with (first
        | (go_at_call 64; (with_reducible refine Calls.mono HF4.out ?_); rintro e w' ⟨A4', rfl, hE, rfl⟩; have HE4 := Lib.hid hE; clear hE)
        | (go_at_call 66; (with_reducible refine Calls.mono HF5.out ?_); rintro e w' ⟨A5', rfl, hE, rfl⟩; have HE5 := Lib.hid hE; clear hE)
        | (go_at_call 64; (with_reducible refine Calls.mono HF6.out ?_); rintro e w' ⟨A6', rfl, hE, rfl⟩; have HE6 := Lib.hid hE; clear hE))
      go_ret3
      have hxx := HXX.out
      rw [hxx.1] at HE4
      rw [hxx.2.1] at HE5
      rw [hxx.2.2] at HE6
      exact ⟨A4', A5', A6', c4, c5, c6, rfl, HE4.out, HE5.out, HE6.out, hm4, hm5, hm6, HBwr.out⟩
end Go.Proofs.YtefbllhpibfojaaDoor
