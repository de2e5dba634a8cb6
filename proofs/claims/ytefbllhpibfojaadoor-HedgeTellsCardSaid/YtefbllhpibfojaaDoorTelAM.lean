/- HedgeTells: the walk. -/
import Derived.Test.YtefbllhpibfojaaDoorTelRM
import Derived.Test.YtefbllhpibfojaaDoorRefRM
namespace Go.Proofs.YtefbllhpibfojaaDoor
open Go.Proofs Stab Go.Shelf Go.RowKit Go.Lib Go.Sort

set_option maxRecDepth 100000 in
set_option maxHeartbeats 16000000 in
theorem tells_any (A : Option Addr) (c : Nat) (a : List Rec) (B : Option Addr) (cb : Nat) (b : List Rec) (r : Rng) (w : World) (hE : EncIn encR 65 w A a) (_hlc : a.length ≤ c) (hcm : c ≤ maxLen) (_ : A = none → c = 0) (hF : EncIn encR 65 w B b) (_hlb : b.length ≤ cb) (hcmb : cb ≤ maxLen) (_ : B = none → cb = 0) (hwd : Tab w 0 (u32s Sha.words)) :
    Calls Tryd.prog 3 #[.slice A a.length c, .slice B b.length cb, .agg (encG r).toArray] w fun e w' => e = .returned (.bool true) ∧ Below w.heap.size w w' := by
  have hn63 : a.length ≤ 9223372036854775807 := by unfold maxLen at hcm; omega
  have hm63 : b.length ≤ 9223372036854775807 := by unfold maxLen at hcmb; omega
  have hr0 : At (w.alloc (.cells (encG r).toArray 26)) w.heap.size 26 (encG r) := At.new w _ _
  have hb0 : Below w.heap.size w (w.alloc (.cells (encG r).toArray 26)) := (Below.refl _ _).alloc (Nat.le_refl _) _
  have HRw0 := Lib.hid hr0
  have HBw0 := Lib.hid hb0
  have HE := Lib.hid hE
  have HF := Lib.hid hF
  have HW := Lib.hid hwd
  have HUD := Lib.hid Tryd.underlying24
  have HDG := Lib.hid (show ∀ l : List UInt8, l.length = 32 → (Tryd.prog.info? 24).map (·.size) = some (u8s l).length from fun l hl => by rw [u8s_length, hl]; exact infoDg)
  have HLR := Lib.hid (show ∀ x, (Tryd.prog.info? 38).map (·.size) = some (encR x).length from fun x => by rw [encR_len]; exact infoRec)
  have HLG := Lib.hid (show ∀ x, (Tryd.prog.info? 26).map (·.size) = some (encG x).length from fun x => by rw [encG_len]; exact infoRng)
  have HLL := Lib.hid (show ∀ x y, (encG x).length = (encG y).length from fun x y => by rw [encG_len, encG_len])
  clear hE hF hwd hcm hcmb _hlc _hlb hr0 hb0
  obtain ⟨n, hn⟩ : ∃ n, n = a.length := ⟨_, rfl⟩
  obtain ⟨m, hm⟩ : ∃ m, m = b.length := ⟨_, rfl⟩
  rw [← hn] at hn63 ⊢
  rw [← hm] at hm63 ⊢
  have HN := Lib.hid hn
  have HM := Lib.hid hm
  clear hn hm
  go_enter Tryd.func3, Tryd.ntmps3
  go_upto_region 1 with (fail)
  obtain ⟨g5, hg5⟩ : ∃ g, g = w.heap.size := ⟨_, rfl⟩
  rw [← hg5] at HRw0 ⊢
  clear hg5
  generalize w.alloc (.cells (encG r).toArray 26) = w0 at HRw0 HBw0 ⊢
  go_upto_region 3 with ((go_at_call 13; (with_reducible refine Calls.mono (awake_any w0 (HW.out.below HBw0.out HW.out.lt)) ?_); rintro e w1 ⟨rfl, hb⟩; have HBw1 := Lib.hid (HBw0.out.trans (hb.mono HBw0.out.size)); have HRw1 := Lib.hid (HRw0.out.below hb HRw0.out.lt); clear hb))
  have HGD := Lib.hid (show ∀ W, Calls Tryd.prog 14 #[.agg (encG r).toArray] W fun e w' => e = .returned (.bool (goodB r)) ∧ Below W.heap.size W w' from fun W => good_any r W)
  by_cases h80 : 80 < n
  · have h80z : (80 : Int) < (n : Int) := by omega
    go_wp2_with fail
    go_ret
    exact ⟨rfl, HBw1.out⟩
  by_cases k80 : 80 < m
  · have h80z : ¬ (80 : Int) < (n : Int) := by omega
    have k80z : (80 : Int) < (m : Int) := by omega
    go_wp2_with fail
    go_ret
    exact ⟨rfl, HBw1.out⟩
  have h80z : ¬ (80 : Int) < (n : Int) := by omega
  have k80z : ¬ (80 : Int) < (m : Int) := by omega
  cases hg : goodB r with
  | false =>
    rw [hg] at HGD
    clear hg
    go_wp2_with (first
      | (with_reducible refine wpList_loadW (by with_unfolding_all rfl) 26 (.tmp 5) rfl g5 0 (by with_unfolding_all rfl) (encG r) _ (HRw1.out.all) Tryd.underlying26 (by with_unfolding_all rfl) (HLG.out _) ?_)
      | (go_at_call 14; (with_reducible refine Calls.mono (HGD.out w1) ?_); rintro e w2 ⟨rfl, hb⟩; have HBw2 := Lib.hid (HBw1.out.trans (hb.mono HBw1.out.size)); have HRw2 := Lib.hid (HRw1.out.below hb HRw1.out.lt); have c2a := HRw2.out.depth; have c2b := HRw2.out.pref; clear hb))
    go_ret
    exact ⟨rfl, HBw2.out⟩
  | true =>
  rw [hg] at HGD
  have HG := Lib.hid hg
  have hpl : placeB r.depth r.pref = true := by unfold goodB at hg; rw [Bool.and_eq_true, Bool.and_eq_true] at hg; exact hg.1.1
  obtain ⟨za, hza⟩ : ∃ z, z = ofR r a := ⟨_, rfl⟩
  obtain ⟨zb, hzb⟩ : ∃ z, z = ofR r b := ⟨_, rfl⟩
  have HZA := Lib.hid hza
  have HZB := Lib.hid hzb
  have HOFA := Lib.hid (show ∀ W, Below w.heap.size w W → Calls Tryd.prog 15 #[.int .i64 r.depth, .int .i64 r.pref, .slice A n c] W fun e w' => e = .returned (.tuple #[.agg (encG za).toArray, .int .i64 0]) ∧ Below W.heap.size W w' from fun W hW => of_at r hpl A c n a W HN.out (HE.out.up hW) (by omega) (HW.out.below hW HW.out.lt) za hza)
  have HOFB := Lib.hid (show ∀ W, Below w.heap.size w W → Calls Tryd.prog 15 #[.int .i64 r.depth, .int .i64 r.pref, .slice B m cb] W fun e w' => e = .returned (.tuple #[.agg (encG zb).toArray, .int .i64 0]) ∧ Below W.heap.size W w' from fun W hW => of_at r hpl B cb m b W HM.out (HF.out.up hW) (by omega) (HW.out.below hW HW.out.lt) zb hzb)
  have HPL := Lib.hid hpl
  clear hg hza hzb hpl
  go_upto_region 7 with (first
    | (with_reducible refine wpList_loadW (by with_unfolding_all rfl) 26 (.tmp 5) rfl g5 0 (by with_unfolding_all rfl) (encG r) _ (HRw1.out.all) Tryd.underlying26 (by with_unfolding_all rfl) (HLG.out _) ?_)
    | (go_at_call 14; (with_reducible refine Calls.mono (HGD.out w1) ?_); rintro e w2 ⟨rfl, hb⟩; have HBw2 := Lib.hid (HBw1.out.trans (hb.mono HBw1.out.size)); have HRw2 := Lib.hid (HRw1.out.below hb HRw1.out.lt); have c2a := HRw2.out.depth; have c2b := HRw2.out.pref; clear hb)
    | (go_at_call 15; (with_reducible refine Calls.mono (HOFA.out _ HBw2.out) ?_); rintro e w3 ⟨rfl, hb⟩; have HBw3 := Lib.hid (HBw2.out.trans (hb.mono HBw2.out.size)); have HRw3 := Lib.hid (HRw2.out.below hb HRw2.out.lt); clear hb c2a c2b)
    | ((with_reducible refine wpList_allocZ (o := ⟨some 7, _, _, _, _, _⟩) 26 (encG default) rfl rfl zeroRng ?_); intro g7 w4 hg hat hb; have HAT7 := Lib.hid hat; have HBA7 := Lib.hid hb; have HGE7 := Lib.hid hg; clear hat hb hg)
    | ((with_reducible refine wpList_storeAll rfl 26 (.tmp 7) (.tmp 41) rfl g7 rfl _ _ (encG za) HAT7.out rfl (HLL.out _ _) (HLG.out _) (encG_one _) ?_); intro w5 hat hg hs; have hbb := Below.ofGrown HBA7.out hg HBA7.out.size (Nat.le_of_eq HGE7.out.symm); have HZ7w5 := Lib.hid hat; have HBw5 := Lib.hid (HBw3.out.trans (hbb.mono HBw3.out.size)); have HRw5 := Lib.hid (HRw3.out.below hbb HRw3.out.lt); clear hat hg hs hbb; have c5a := HRw5.out.depth; have c5b := HRw5.out.pref)
    | (go_at_call 15; (with_reducible refine Calls.mono (HOFB.out _ HBw5.out) ?_); rintro e w6 ⟨rfl, hb⟩; have HBw6 := Lib.hid (HBw5.out.trans (hb.mono HBw5.out.size)); have HRw6 := Lib.hid (HRw5.out.below hb HRw5.out.lt); have HZ7w6 := Lib.hid (HZ7w5.out.below hb HZ7w5.out.lt); clear hb c5a c5b)
    | ((with_reducible refine wpList_allocZ (o := ⟨some 9, _, _, _, _, _⟩) 26 (encG default) rfl rfl zeroRng ?_); intro g9 w7 hg hat hb; have HAT9 := Lib.hid hat; have HBA9 := Lib.hid hb; have HGE9 := Lib.hid hg; clear hat hb hg)
    | ((with_reducible refine wpList_storeAll rfl 26 (.tmp 9) (.tmp 50) rfl g9 rfl _ _ (encG zb) HAT9.out rfl (HLL.out _ _) (HLG.out _) (encG_one _) ?_); intro w8 hat hg hs; have hbb := Below.ofGrown HBA9.out hg HBA9.out.size (Nat.le_of_eq HGE9.out.symm); have HZ9w8 := Lib.hid hat; have HBw8 := Lib.hid (HBw6.out.trans (hbb.mono HBw6.out.size)); have HRw8 := Lib.hid (HRw6.out.below hbb HRw6.out.lt); have HZ7w8 := Lib.hid (HZ7w6.out.below hbb HZ7w6.out.lt); clear hat hg hs hbb))

  obtain ⟨Na, hNa⟩ : ∃ N, N = (itemsR r a).length := ⟨_, rfl⟩
  obtain ⟨Nb, hNb⟩ : ∃ N, N = (itemsR r b).length := ⟨_, rfl⟩
  have hNa80 : Na ≤ 80 := by have := itemsR_len r a; have := HN.out; omega
  have hNb80 : Nb ≤ 80 := by have := itemsR_len r b; have := HM.out; omega
  have HNA := Lib.hid hNa
  have HNB := Lib.hid hNb
  have HIA := Lib.hid (show ∀ W, Behind w8 W → Calls Tryd.prog 17 #[.agg (encG r).toArray, .slice A n c] W fun e w' => ∃ A' c', e = .returned (.slice A' Na c') ∧ Na ≤ c' ∧ EncIn encR 65 w' A' (itemsR r a) ∧ Below W.heap.size W w' from fun W hW => items_slice r A c a W n Na HN.out hNa (HE.out.up (Below.trans HBw8.out (Below.mono hW HBw8.out.size))) (by omega))
  have HIB := Lib.hid (show ∀ W, Behind w8 W → Calls Tryd.prog 17 #[.agg (encG r).toArray, .slice B m cb] W fun e w' => ∃ A' c', e = .returned (.slice A' Nb c') ∧ Nb ≤ c' ∧ EncIn encR 65 w' A' (itemsR r b) ∧ Below W.heap.size W w' from fun W hW => items_slice r B cb b W m Nb HM.out hNb (HF.out.up (Below.trans HBw8.out (Below.mono hW HBw8.out.size))) (by omega))
  have HS5 := Lib.hid (show ∀ W, Behind w8 W → At W g5 26 (encG r) from fun W h => HRw8.out.below h HRw8.out.lt)
  have HS7 := Lib.hid (show ∀ W, Behind w8 W → At W g7 26 (encG za) from fun W h => HZ7w8.out.below h HZ7w8.out.lt)
  have HS9 := Lib.hid (show ∀ W, Behind w8 W → At W g9 26 (encG zb) from fun W h => HZ9w8.out.below h HZ9w8.out.lt)
  obtain ⟨sm, hsm⟩ : ∃ s, s = decide (itemsR r a = itemsR r b) := ⟨_, rfl⟩
  have HSM := Lib.hid hsm
  clear hNa hNb hsm
  refine wp_region_mix [(0, true), (1, true), (3, true), (4, true), (2, false), (5, false), (6, false), (7, true)] (Behind w8)
    (by kernel_rfl) (by kernel_rfl) (fun _ _ d _ _ h => by cases d <;> exact h) (by kernel_rfl) (by decide) (Below.refl _ _).drew ?_
  have hz0 : Behind w8 w8.drew := (Below.refl _ _).drew
  repeat (
    refine wpMix_q (by with_unfolding_all rfl) (by kernel_rfl) ?_
    first
      | go_big_quiet_skip
      | ((with_reducible refine wpQuiet_loadAll (by with_unfolding_all rfl) 26 _ (by with_unfolding_all rfl) g5 (0) (by with_unfolding_all rfl) (encG r) _ (fun w h => (HS5.out w h).all) Tryd.underlying26 (by with_unfolding_all rfl) (HLG.out _) ?_); simp only [Act.put, List.setIfInBounds_toArray, List.set_cons_zero, List.set_cons_succ])
      | (go_big_quiet_step (exact fun _ => rfl))
    refine wpMix_qnil ?_)
  refine wpMix_call 17 [.agg (encG r).toArray, .slice A n c] (fun v w' => ∃ A' c', v = .slice A' Na c' ∧ EncIn encR 65 w' A' (itemsR r a)) (by with_unfolding_all rfl) (by with_unfolding_all rfl) (by with_unfolding_all rfl) ((HIA.out _ hz0).mono (fun e w' ⟨A', c', he, _, hE, hb⟩ => ⟨_, he, Behind.trans' hz0 hb, A', c', rfl, hE⟩)) ?_
  rintro v1 z1 hz1 ⟨A1, c1, rfl, hE1⟩
  simp only [Act.put, List.setIfInBounds_toArray, List.set_cons_zero, List.set_cons_succ]
  refine wpMix_call 17 [.agg (encG r).toArray, .slice B m cb] (fun v w' => ∃ A' c', v = .slice A' Nb c' ∧ EncIn encR 65 w' A' (itemsR r b) ∧ Below z1.heap.size z1 w') (by with_unfolding_all rfl) (by with_unfolding_all rfl) (by with_unfolding_all rfl) ((HIB.out _ hz1).mono (fun e w' ⟨A', c', he, _, hE, hb⟩ => ⟨_, he, Behind.trans' hz1 hb, A', c', rfl, hE, hb⟩)) ?_
  rintro v2 z2 hz2 ⟨A2, c2, rfl, hE2, hb2⟩
  simp only [Act.put, List.setIfInBounds_toArray, List.set_cons_zero, List.set_cons_succ]
  refine mix_callv 16 [.slice A1 Na c1, .slice A2 Nb c2] (.bool sm) (by with_unfolding_all rfl) (by with_unfolding_all rfl) (by with_unfolding_all rfl) ((records_any A1 A2 c1 c2 (itemsR r a) (itemsR r b) Na Nb z2 HNA.out HNB.out (hE1.up hb2) hE2 (by omega) (by omega)).mono (fun e w' ⟨he, hb⟩ => ⟨by rw [he, HSM.out], Behind.trans' hz2 hb⟩)) ?_
  intro z3 hz3
  simp only [Act.put, List.setIfInBounds_toArray, List.set_cons_zero, List.set_cons_succ]
  repeat (
    refine wpMix_q (by with_unfolding_all rfl) (by kernel_rfl) ?_
    first
      | go_big_quiet_skip
      | (go_big_quiet_step (exact fun _ => rfl))
    refine wpMix_qnil ?_)
  refine wpMix_nil ?_
  have HQ3 := Lib.hid (show Behind w8 z3 from hz3)
  clear hz0 hz1 hE1 hz2 hE2 hb2 hz3

  obtain ⟨ta, hta⟩ : ∃ t, t = textR (itemsR r a) := ⟨_, rfl⟩
  obtain ⟨tb, htb⟩ : ∃ t, t = textR (itemsR r b) := ⟨_, rfl⟩
  have HTA := Lib.hid hta
  have HTB := Lib.hid htb
  have HLA := Lib.hid (show ta.length < 1099511627776 by have h1 := textR_len (itemsR r a); have h2 := HNA.out; rw [hta]; omega)
  have HLB := Lib.hid (show tb.length < 1099511627776 by have h1 := textR_len (itemsR r b); have h2 := HNB.out; rw [htb]; omega)
  have HRWA := Lib.hid (show ∀ (W : World) (A' : Option Addr) (c' : Nat), EncIn encR 65 W A' (itemsR r a) → Calls Tryd.prog 18 #[.slice A' Na c'] W fun e w' => e = .returned (.string ⟨ta.toArray⟩) ∧ Below W.heap.size W w' from fun W A' c' h => by rw [hta]; exact rowt_any A' c' Na _ W HNA.out h (by omega))
  have HRWB := Lib.hid (show ∀ (W : World) (A' : Option Addr) (c' : Nat), EncIn encR 65 W A' (itemsR r b) → Calls Tryd.prog 18 #[.slice A' Nb c'] W fun e w' => e = .returned (.string ⟨tb.toArray⟩) ∧ Below W.heap.size W w' from fun W A' c' h => by rw [htb]; exact rowt_any A' c' Nb _ W HNB.out h (by omega))
  have HWB := Lib.hid (show ∀ W, Behind w8 W → Tab W 0 (u32s Sha.words) from fun W h => HW.out.below (Below.trans HBw8.out (Below.mono h HBw8.out.size)) HW.out.lt)
  have HOFS := Lib.hid (show ∀ (l : List UInt8) (W : World) (A' : Option Addr), l.length < 1099511627776 → StrsAt W A' [⟨l.toArray⟩] W.heap.size → Behind w8 W → Calls Tryd.prog 19 #[.slice A' 1 1] W fun e w' => e = .returned (.agg (u8s (Sha.sha l)).toArray) ∧ Below W.heap.size W w' from fun l W A' hl hs hW => ofone_any l A' 1 W hs hl (HWB.out W hW))
  clear hta htb
  go_upto_region 10 with (first
    | (with_reducible refine wpList_loadAll rfl 26 (.tmp 5) rfl g5 rfl _ _ _ (HS5.out _ HQ3.out) Tryd.underlying26 rfl (HLG.out _) ?_)
    | (go_at_call 17; (with_reducible refine Calls.mono (HIA.out _ HQ3.out) ?_); rintro e y1 ⟨A_y1, c_y1, rfl, _, hE, hb⟩; have HE8 := Lib.hid hE; have HQ4 := Lib.hid (Behind.trans' HQ3.out hb); clear hE hb)
    | (go_at_call 18; (with_reducible refine Calls.mono (HRWA.out _ _ _ HE8.out) ?_); rintro e y2 ⟨rfl, hb⟩; have HQ5 := Lib.hid (Behind.trans' HQ4.out hb); clear hb)
    | (with_reducible refine wpList_loadAll rfl 26 (.tmp 5) rfl g5 rfl _ _ _ (HS5.out _ HQ5.out) Tryd.underlying26 rfl (HLG.out _) ?_)
    | (go_at_call 17; (with_reducible refine Calls.mono (HIB.out _ HQ5.out) ?_); rintro e y3 ⟨A_y3, c_y3, rfl, _, hE, hb⟩; have HE9 := Lib.hid hE; have HQ6 := Lib.hid (Behind.trans' HQ5.out hb); clear hE hb)
    | (go_at_call 18; (with_reducible refine Calls.mono (HRWB.out _ _ _ HE9.out) ?_); rintro e y4 ⟨rfl, hb⟩; have HQ7 := Lib.hid (Behind.trans' HQ6.out hb); clear hb))
  have HTELL := Lib.hid (show (ta ≠ tb → Sha.sha ta ≠ Sha.sha tb) → decide (za = zb) = sm from fun h => by rw [HSM.out, HZA.out, HZB.out]; refine ofR_tells HG.out (by have := HN.out; omega) (by have := HM.out; omega) ?_; rw [← HTA.out, ← HTB.out]; exact h)
  have HTXT := Lib.hid (show decide (ta = tb) = sm from by rw [HSM.out, HTA.out, HTB.out]; exact textR_tells (by have := HN.out; omega) (by have := HM.out; omega))
  by_cases hlet : ta ≠ tb ∧ Sha.sha ta = Sha.sha tb
  · have HNE := Lib.hid (show ∀ w, (binOp .neq 9 (.string ⟨ta.toArray⟩) (.string ⟨tb.toArray⟩)).run Tryd.prog w = .ok (.bool true) w from fun w => by have h := run_neq_str w ta tb; rw [decide_eq_false hlet.1] at h; exact h)
    have HED := Lib.hid (show ∀ w, (binOp .eql 24 (.agg (u8s (Sha.sha ta)).toArray) (.agg (u8s (Sha.sha tb)).toArray)).run Tryd.prog w = .ok (.bool true) w from fun w => by have h := run_eql_dg w (Sha.sha ta) (Sha.sha tb) (sha_len _) (sha_len _); rw [beq_iff_eq.2 hlet.2] at h; exact h)
    clear hlet
    go_wp2_with (first
      | (with_reducible refine wpList_eq (.bool true) (by with_unfolding_all rfl) .neq 9 (.tmp 67) (.tmp 68) 9 rfl (.string ⟨ta.toArray⟩) (.string ⟨tb.toArray⟩) (by with_unfolding_all rfl) (by with_unfolding_all rfl) (fun w => run_eqGuard_str w _ _ _ _ _) HNE.out ?_)
      | ((with_reducible refine wpList_oneStr (by with_unfolding_all rfl) (.tmp 71) rfl ⟨ta.toArray⟩ (by with_unfolding_all rfl) ?_); intro g72 y5 hs hb; have HST5 := Lib.hid hs; have HQ8 := Lib.hid (Behind.trans' HQ7.out hb); clear hs hb)
      | (go_at_call 19; (with_reducible refine Calls.mono (HOFS.out ta _ _ HLA.out HST5.out HQ8.out) ?_); rintro e y6 ⟨rfl, hb⟩; have HQ9 := Lib.hid (Behind.trans' HQ8.out hb); clear hb)
      | ((with_reducible refine wpList_oneStr (by with_unfolding_all rfl) (.tmp 74) rfl ⟨tb.toArray⟩ (by with_unfolding_all rfl) ?_); intro g75 y7 hs hb; have HST7 := Lib.hid hs; have HQ10 := Lib.hid (Behind.trans' HQ9.out hb); clear hs hb)
      | (go_at_call 19; (with_reducible refine Calls.mono (HOFS.out tb _ _ HLB.out HST7.out HQ10.out) ?_); rintro e y8 ⟨rfl, hb⟩; have HQ11 := Lib.hid (Behind.trans' HQ10.out hb); clear hb)
      | (with_reducible refine wpList_eq (.bool true) (by with_unfolding_all rfl) .eql 24 (.tmp 73) (.tmp 76) 24 rfl (.agg (u8s (Sha.sha ta)).toArray) (.agg (u8s (Sha.sha tb)).toArray) (by with_unfolding_all rfl) (by with_unfolding_all rfl) (fun w => run_eqGuard_dg w _ _ _ _ _) HED.out ?_))
    go_ret
    exact ⟨rfl, HBw8.out.trans (Below.mono HQ11.out HBw8.out.size)⟩
  have htell : ta ≠ tb → Sha.sha ta ≠ Sha.sha tb := fun h1 h2 => hlet ⟨h1, h2⟩
  have HT1 := Lib.hid (HTELL.out htell)
  have HTL := Lib.hid htell
  clear hlet htell
  by_cases htt : ta = tb
  case' pos =>
    have HNE := Lib.hid (show ∀ w, (binOp .neq 9 (.string ⟨ta.toArray⟩) (.string ⟨tb.toArray⟩)).run Tryd.prog w = .ok (.bool false) w from fun w => by have h := run_neq_str w ta tb; rw [decide_eq_true htt] at h; exact h)
    clear htt
    go_upto_region 12 with (first
      | (with_reducible refine wpList_eq (.bool false) (by with_unfolding_all rfl) .neq 9 (.tmp 67) (.tmp 68) 9 rfl (.string ⟨ta.toArray⟩) (.string ⟨tb.toArray⟩) (by with_unfolding_all rfl) (by with_unfolding_all rfl) (fun w => run_eqGuard_str w _ _ _ _ _) HNE.out ?_))
    have HQR := Lib.hid HQ7.out
  case' neg =>
    have HNE := Lib.hid (show ∀ w, (binOp .neq 9 (.string ⟨ta.toArray⟩) (.string ⟨tb.toArray⟩)).run Tryd.prog w = .ok (.bool true) w from fun w => by have h := run_neq_str w ta tb; rw [decide_eq_false htt] at h; exact h)
    have HED := Lib.hid (show ∀ w, (binOp .eql 24 (.agg (u8s (Sha.sha ta)).toArray) (.agg (u8s (Sha.sha tb)).toArray)).run Tryd.prog w = .ok (.bool false) w from fun w => by have h := run_eql_dg w (Sha.sha ta) (Sha.sha tb) (sha_len _) (sha_len _); rw [beq_eq_false_iff_ne.2 (HTL.out htt)] at h; exact h)
    clear htt
    go_upto_region 12 with (first
      | (with_reducible refine wpList_eq (.bool true) (by with_unfolding_all rfl) .neq 9 (.tmp 67) (.tmp 68) 9 rfl (.string ⟨ta.toArray⟩) (.string ⟨tb.toArray⟩) (by with_unfolding_all rfl) (by with_unfolding_all rfl) (fun w => run_eqGuard_str w _ _ _ _ _) HNE.out ?_)
      | ((with_reducible refine wpList_oneStr (by with_unfolding_all rfl) (.tmp 71) rfl ⟨ta.toArray⟩ (by with_unfolding_all rfl) ?_); intro g72 y5 hs hb; have HST5 := Lib.hid hs; have HQ8 := Lib.hid (Behind.trans' HQ7.out hb); clear hs hb)
      | (go_at_call 19; (with_reducible refine Calls.mono (HOFS.out ta _ _ HLA.out HST5.out HQ8.out) ?_); rintro e y6 ⟨rfl, hb⟩; have HQ9 := Lib.hid (Behind.trans' HQ8.out hb); clear hb)
      | ((with_reducible refine wpList_oneStr (by with_unfolding_all rfl) (.tmp 74) rfl ⟨tb.toArray⟩ (by with_unfolding_all rfl) ?_); intro g75 y7 hs hb; have HST7 := Lib.hid hs; have HQ10 := Lib.hid (Behind.trans' HQ9.out hb); clear hs hb)
      | (go_at_call 19; (with_reducible refine Calls.mono (HOFS.out tb _ _ HLB.out HST7.out HQ10.out) ?_); rintro e y8 ⟨rfl, hb⟩; have HQ11 := Lib.hid (Behind.trans' HQ10.out hb); clear hb)
      | (with_reducible refine wpList_eq (.bool false) (by with_unfolding_all rfl) .eql 24 (.tmp 73) (.tmp 76) 24 rfl (.agg (u8s (Sha.sha ta)).toArray) (.agg (u8s (Sha.sha tb)).toArray) (by with_unfolding_all rfl) (by with_unfolding_all rfl) (fun w => run_eqGuard_dg w _ _ _ _ _) HED.out ?_))
    have HQR := Lib.hid HQ11.out
  all_goals
    have HEQ := Lib.hid (show ∀ w, (binOp .eql 26 (.agg (encG za).toArray) (.agg (encG zb).toArray)).run Tryd.prog w = .ok (.bool sm) w from fun w => by have h := run_eql_rng w za zb; rw [HT1.out] at h; exact h)
    have HES := Lib.hid (show ∀ w, (binOp .eql 9 (.string ⟨ta.toArray⟩) (.string ⟨tb.toArray⟩)).run Tryd.prog w = .ok (.bool sm) w from fun w => by have h := run_eql_str w ta tb; rw [HTXT.out] at h; exact h)
    obtain ⟨Ns, hNs⟩ : ∃ N, N = (sortR a).length := ⟨_, rfl⟩
    have hNs80 : Ns ≤ 80 := by have := sortR_len a; have := HN.out; omega
    have HNS := Lib.hid hNs
    have HSRT := Lib.hid (show ∀ W, Behind w8 W → Calls Tryd.prog 20 #[.slice A n c] W fun e w' => ∃ A' c', e = .returned (.slice A' Ns c') ∧ Ns ≤ c' ∧ EncIn encR 65 w' A' (sortR a) ∧ Below W.heap.size W w' from fun W hW => sort_slice A c a W n Ns HN.out hNs (HE.out.up (Below.trans HBw8.out (Below.mono hW HBw8.out.size))) (by omega))
    clear hNs
    go_upto_region 15 with (first
      | (with_reducible refine wpList_loadW (by with_unfolding_all rfl) 26 (.tmp 7) rfl g7 0 (by with_unfolding_all rfl) (encG za) _ ((HS7.out _ HQR.out).all) Tryd.underlying26 (by with_unfolding_all rfl) (HLG.out _) ?_)
      | (with_reducible refine wpList_loadW (by with_unfolding_all rfl) 26 (.tmp 9) rfl g9 0 (by with_unfolding_all rfl) (encG zb) _ ((HS9.out _ HQR.out).all) Tryd.underlying26 (by with_unfolding_all rfl) (HLG.out _) ?_)
      | (with_reducible refine wpList_eq (.bool sm) (by with_unfolding_all rfl) .eql 26 (.tmp 86) (.tmp 87) 26 rfl (.agg (encG za).toArray) (.agg (encG zb).toArray) (by with_unfolding_all rfl) (by with_unfolding_all rfl) (fun w => run_eqGuard_rng w _ _ _ _ _) HEQ.out ?_)
      | (with_reducible refine wpList_eq (.bool sm) (by with_unfolding_all rfl) .eql 9 (.tmp 93) (.tmp 94) 9 rfl (.string ⟨ta.toArray⟩) (.string ⟨tb.toArray⟩) (by with_unfolding_all rfl) (by with_unfolding_all rfl) (fun w => run_eqGuard_str w _ _ _ _ _) HES.out ?_)
      | (go_at_call 20; (with_reducible refine Calls.mono (HSRT.out _ HQR.out) ?_); rintro e ys ⟨A_s, c_s, rfl, _, hE, hb⟩; have HESs := Lib.hid hE; have HQS := Lib.hid (Behind.trans' HQR.out hb); clear hE hb))
    go_wp2_with (first
      | ((with_reducible refine wpList_to (.slice (some ⟨ys.heap.size, 0, none⟩) 0 0) (ys.alloc (.cells #[] 38)) rfl (exec_none rfl Tryd.underlying22 sizeRec ys) ?_)))
    have hO0 := own_none (k := 65) (enc := encR) ys 38 (base := ys.heap.size) (Nat.le_refl _)
    have hb0 : Below ys.heap.size ys (ys.alloc (.cells #[] 38)) := (Below.refl _ _).alloc (Nat.le_refl _) _
    have HO0 := Lib.hid hO0
    have HB0 := Lib.hid hb0
    clear hO0 hb0
    generalize ys.alloc (.cells #[] 38) = w15 at HO0 HB0 ⊢
    go_loopg [15, 16] Ns (fun gg s15 s16 wr => ∃ (k : Nat) (v : Value) (z : Int), v = s15 ∧ s16 = .int .i64 z ∧ Hid (z = (Ns : Int) - 1 - k) ∧ k ≤ Ns ∧ Ns - k ≤ gg ∧ Hid (Own wr ys.heap.size 38 65 v k (((sortR a).reverse.take k).flatMap encR)) ∧ Hid (Below ys.heap.size ys wr))
    case atStart => exact ⟨0, _, (Ns : Int) - 1, rfl, by go_num, (show Hid _ from (by omega : (Ns : Int) - 1 = (Ns : Int) - 1 - (0 : Nat))), Nat.zero_le _, by omega, HO0.out, HB0.out⟩
    case round =>
      obtain ⟨k, v, z, hv, rfl, HZI, hk, hgg, HO, HBW⟩ := hrel
      subst hv
      have HQW := Lib.hid (show Behind w8 wr from Behind.trans' HQS.out HBW.out)
      by_cases hge : (0 : Int) ≤ z
      · obtain ⟨j, rfl⟩ := Int.eq_ofNat_of_zero_le hge
        have hjN : j < Ns := by have := HZI.out; omega
        have i0 : (0 : Int) ≤ (j : Int) := by omega
        have i1 : (j : Int) < (Ns : Int) := by omega
        have hjl : j < (sortR a).length := by have := HNS.out; omega
        obtain ⟨gA, off, hA, hgA, hrg⟩ := (HESs.out.up HBW.out).at hjl
        obtain ⟨x, hx⟩ : ∃ x, x = (sortR a)[j] := ⟨_, rfl⟩
        rw [← hx] at hrg
        have HRX := Lib.hid hrg
        have HX := Lib.hid hx
        clear hrg hx hgA
        subst hA
        go_wp2_with (first
          | (with_reducible refine wpList_loadW (by with_unfolding_all rfl) 38 (.tmp 112) rfl gA (off + j * 65) (by with_unfolding_all rfl) (encR x) _ HRX.out Tryd.underlying38 (by with_unfolding_all rfl) (HLR.out x) ?_)
          | ((with_reducible refine wpList_one rfl 22 38 65 x (.tmp 113) rfl (by with_unfolding_all rfl) Tryd.underlying22 info2Rec (by decide) (by decide) (encR_len x) ?_); intro g114 u1 hg hb hE; have HEO := Lib.hid hE; have HBO := Lib.hid hb; clear hg hb hE)
          | (at_builtin; refine wpList_append_enc (enc := encR) (k := 65) rfl rfl (.tmp 109) (.tmp 114) 22 38 72 rfl _ Tryd.underlying22 info3Rec rfl (by decide) ys.heap.size v k ((sortR a).reverse.take k) [x] rfl (HO.out.below HBO.out) (fun _ _ => encR_len _) (fun _ _ => encR_one _) (some ⟨g114, 0, none⟩) 1 1 rfl rfl HEO.out (by unfold maxLen; simp; omega) (by simp; omega) (Nat.le_trans HBW.out.size HBO.out.size) ?_; intro v7 w7 hO7 hg7 _; have HO7 := Lib.hid hO7; have HG7 := Lib.hid hg7; clear hO7 hg7))
        go_roundg (Ns - (k + 1))
        case measure => have := HZI.out; omega
        case rel =>
          refine ⟨k + 1, v7, (j : Int) - 1, rfl, by go_num, (show Hid _ from (by have := HZI.out; omega : (j : Int) - 1 = (Ns : Int) - 1 - ((k + 1 : Nat) : Int))), by have := HZI.out; omega, Nat.le_refl _, ?_, ?_⟩
          · show Own _ _ _ _ _ _ _
            have hkr : k < (sortR a).reverse.length := by rw [List.length_reverse]; have h1 := HZI.out; have h2 := HNS.out; omega
            have hxr : (sortR a).reverse[k] = x := by
              rw [HX.out, List.getElem_reverse]
              congr 1
              have := HZI.out
              have := HNS.out
              omega
            rw [List.take_succ_eq_append_getElem hkr, hxr]
            exact HO7.out
          · exact own_below2 (HO.out.below HBO.out) (HBW.out.trans (HBO.out.mono HBW.out.size)) (Nat.le_refl _) (Nat.le_trans HBW.out.size HBO.out.size) HG7.out
      · have hkn : k = Ns := by have := HZI.out; omega
        have hlen : (sortR a).reverse.length = Ns := by rw [List.length_reverse]; exact HNS.out.symm
        have hO := HO.out
        rw [hkn, List.take_of_length_le (by omega)] at hO
        obtain ⟨A15, c15, rfl, _, hE15⟩ := hO.rows hlen.symm (fun x _ => encR_len x)
        have c20a := (HS5.out _ HQW.out).depth
        have c20b := (HS5.out _ HQW.out).pref
        have HKwr := Lib.hid (show Below w8.heap.size w8 wr from HQW.out)
        have HOFC := Lib.hid (of_at r HPL.out A15 c15 Ns (sortR a).reverse wr hlen.symm hE15 (by omega) (HWB.out _ HQW.out) za (by rw [HZA.out]; exact (ofR_back r a).symm))
        have HEQZ := Lib.hid (show ∀ w, (binOp .eql 26 (.agg (encG za).toArray) (.agg (encG za).toArray)).run Tryd.prog w = .ok (.bool true) w from fun w => by have h := run_eql_rng w za za; rw [decide_eq_true rfl] at h; exact h)
        clear hO hE15 hlen HO HZI
        go_wp2_with (first
          | (go_at_call 15; (with_reducible refine Calls.mono (HOFC.out) ?_); rintro e u1 ⟨rfl, hb⟩; have HKu1 := Lib.hid (HKwr.out.trans (hb.mono HKwr.out.size)); clear hb c20a c20b)
          | ((with_reducible refine wpList_allocZ (o := ⟨some 17, _, _, _, _, _⟩) 26 (encG default) rfl rfl zeroRng ?_); intro g17 u2 hg hat hb; have HAT17 := Lib.hid hat; have HBA17 := Lib.hid hb; have HGE17 := Lib.hid hg; clear hat hb hg)
          | ((with_reducible refine wpList_storeAll rfl 26 (.tmp 17) (.tmp 123) rfl g17 rfl _ _ (encG za) HAT17.out rfl (HLL.out _ _) (HLG.out _) (encG_one _) ?_); intro u3 hat hg hs; have hbb := Below.ofGrown HBA17.out hg HBA17.out.size (Nat.le_of_eq HGE17.out.symm); have HZ17u3 := Lib.hid hat; have HKu3 := Lib.hid (HKu1.out.trans (hbb.mono HKu1.out.size)); clear hat hg hs hbb; have HQU := Lib.hid (show Behind w8 u3 from HKu3.out))
          | (with_reducible refine wpList_loadW (by with_unfolding_all rfl) 26 (.tmp 17) rfl g17 0 (by with_unfolding_all rfl) (encG za) _ (HZ17u3.out.all) Tryd.underlying26 (by with_unfolding_all rfl) (HLG.out _) ?_)
          | (with_reducible refine wpList_loadW (by with_unfolding_all rfl) 26 (.tmp 7) rfl g7 0 (by with_unfolding_all rfl) (encG za) _ ((HS7.out _ HQU.out).all) Tryd.underlying26 (by with_unfolding_all rfl) (HLG.out _) ?_)
          | (with_reducible refine wpList_eq (.bool true) (by with_unfolding_all rfl) .eql 26 (.tmp 128) (.tmp 129) 26 rfl (.agg (encG za).toArray) (.agg (encG za).toArray) (by with_unfolding_all rfl) (by with_unfolding_all rfl) (fun w => run_eqGuard_rng w _ _ _ _ _) HEQZ.out ?_))
        go_ret
        exact ⟨rfl, HBw8.out.trans (Below.mono HQU.out HBw8.out.size)⟩
end Go.Proofs.YtefbllhpibfojaaDoor
