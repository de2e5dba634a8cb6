/- HedgeExact: the walk. -/
import Derived.Test.YtefbllhpibfojaaDoorRfEM
import Derived.Test.YtefbllhpibfojaaDoorRefRM
namespace Go.Proofs.YtefbllhpibfojaaDoor
open Go.Proofs Stab Go.Shelf Go.RowKit Go.Lib Go.Sort

/-- what Of and Parts answer, good arguments or not -/
def ofZ (r : Rng) (l : List Rec) : Rng := if placeB r.depth r.pref then ofR r l else Rng.zero
def ofE (r : Rng) : Int := if placeB r.depth r.pref then 0 else 1
def partsZ (r : Rng) (l : List Rec) : List Rng := if goodB r && !decide (r.depth = 8) then partsR r l else []
def partsE (r : Rng) : Int := if goodB r && !decide (r.depth = 8) then 0 else 1
theorem ofz_any (r : Rng) (A : Option Addr) (c n : Nat) (l : List Rec) (w : World) (hln : n = l.length) (hE : EncIn encR 65 w A l) (hn : n ≤ 80) (hwd : Tab w 0 (u32s Sha.words)) :
    Calls Tryd.prog 15 #[.int .i64 r.depth, .int .i64 r.pref, .slice A n c] w fun e w' => e = .returned (.tuple #[.agg (encG (ofZ r l)).toArray, .int .i64 (ofE r)]) ∧ Below w.heap.size w w' := by
  unfold ofZ ofE
  cases h : placeB r.depth r.pref with
  | true => exact of_at r h A c n l w hln hE (by omega) hwd _ rfl
  | false => exact of_bad r h A n c w
theorem refofz_any (r : Rng) (A : Option Addr) (c n : Nat) (l : List Rec) (w : World) (hln : n = l.length) (hE : EncIn encR 65 w A l) (hn : n ≤ 80) :
    Calls Tryd.prog 23 #[.int .i64 r.depth, .int .i64 r.pref, .slice A n c] w fun e w' => e = .returned (.tuple #[.agg (encG (ofZ r l)).toArray, .int .i64 (ofE r)]) ∧ Below w.heap.size w w' := by
  unfold ofZ ofE
  cases h : placeB r.depth r.pref with
  | true => exact refof_good r h A c n l w hln hE hn _ rfl
  | false => exact refof_bad r h A n c w
theorem partsz_cases (r : Rng) (l : List Rec) : (goodB r = true ∧ r.depth ≠ 8 ∧ partsZ r l = partsR r l ∧ partsE r = 0) ∨ ((goodB r = false ∨ r.depth = 8) ∧ partsZ r l = [] ∧ partsE r = 1) := by
  unfold partsZ partsE
  cases hg : goodB r with
  | false => exact .inr ⟨.inl rfl, rfl, rfl⟩
  | true =>
    by_cases h8 : r.depth = 8
    · exact .inr ⟨.inr h8, by simp [h8], by simp [h8]⟩
    · exact .inl ⟨rfl, h8, by simp [h8], by simp [h8]⟩
theorem partsz_any (r : Rng) (A : Option Addr) (c n : Nat) (l : List Rec) (w : World) (hln : n = l.length) (hE : EncIn encR 65 w A l) (hn : n ≤ 80) (hwd : Tab w 0 (u32s Sha.words)) (N : Nat) (hN : N = (partsZ r l).length) :
    Calls Tryd.prog 24 #[.agg (encG r).toArray, .slice A n c] w fun e w' => ∃ A' c', e = .returned (.tuple #[.slice A' N c', .int .i64 (partsE r)]) ∧ N ≤ c' ∧ EncIn encG 35 w' A' (partsZ r l) ∧ Below w.heap.size w w' := by
  subst hN hln
  rcases partsz_cases r l with ⟨h1, h2, h3, h4⟩ | ⟨h1, h3, h4⟩
  · rw [h3, h4]
    refine (parts_good r h1 h2 A c l w hE (by omega) hwd).mono ?_
    rintro e w' ⟨v, rfl, hO, hb⟩
    have hl : 4 = (partsR r l).length := by simp [partsR]
    rw [← hl]
    obtain ⟨A', c', rfl, hc, hE'⟩ := hO.rows hl (fun x _ => encG_len x)
    exact ⟨A', c', rfl, hc, hE', hb⟩
  · rw [h3, h4]
    refine (parts_bad r h1 A l.length c w).mono ?_
    rintro e w' ⟨rfl, hb⟩
    exact ⟨none, 0, rfl, Nat.le_refl _, EncIn.nil, hb⟩
theorem refpartsz_any (r : Rng) (A : Option Addr) (c n : Nat) (l : List Rec) (w : World) (hln : n = l.length) (hE : EncIn encR 65 w A l) (hn : n ≤ 80) (N : Nat) (hN : N = (partsZ r l).length) :
    Calls Tryd.prog 25 #[.agg (encG r).toArray, .slice A n c] w fun e w' => ∃ A' c', e = .returned (.tuple #[.slice A' N c', .int .i64 (partsE r)]) ∧ N ≤ c' ∧ EncIn encG 35 w' A' (partsZ r l) ∧ Below w.heap.size w w' := by
  subst hN hln
  rcases partsz_cases r l with ⟨h1, h2, h3, h4⟩ | ⟨h1, h3, h4⟩
  · rw [h3, h4]
    have hl : 4 = (partsR r l).length := by simp [partsR]
    rw [← hl]
    exact refparts_good r h1 h2 A c l.length l w rfl hE hn
  · rw [h3, h4]
    refine (refparts_bad r h1 A l.length c w).mono ?_
    rintro e w' ⟨rfl, hb⟩
    exact ⟨none, 0, rfl, Nat.le_refl _, EncIn.nil, hb⟩
set_option maxRecDepth 100000 in
set_option maxHeartbeats 8000000 in
theorem hexact_any (A : Option Addr) (c : Nat) (l : List Rec) (r : Rng) (k : List UInt8) (hk : k.length = 32) (w : World) (hE : EncIn encR 65 w A l) (_hlc : l.length ≤ c) (hcm : c ≤ maxLen) (_ : A = none → c = 0) (hwd : Tab w 0 (u32s Sha.words)) :
    Calls Tryd.prog 6 #[.slice A l.length c, .agg (encG r).toArray, .agg (u8s k).toArray] w fun e w' => e = .returned (.bool true) ∧ Below w.heap.size w w' := by
  have hn63 : l.length ≤ 9223372036854775807 := by unfold maxLen at hcm; omega
  have hr0 : At (w.alloc (.cells (encG r).toArray 26)) w.heap.size 26 (encG r) := At.new w _ _
  have hr1 := hr0.alloc (.cells (u8s k).toArray 24)
  have hk0 : At ((w.alloc (.cells (encG r).toArray 26)).alloc (.cells (u8s k).toArray 24)) (w.heap.size + 1) 24 (u8s k) := by
    have := At.new (w.alloc (.cells (encG r).toArray 26)) 24 (u8s k)
    simpa using this
  have hb0 : Below w.heap.size w ((w.alloc (.cells (encG r).toArray 26)).alloc (.cells (u8s k).toArray 24)) := ((Below.refl _ _).alloc (Nat.le_refl _) _).alloc (by simp) _
  have HRw0 := Lib.hid hr1
  have HKw0 := Lib.hid hk0
  have HBw0 := Lib.hid hb0
  have HE := Lib.hid hE
  have HW := Lib.hid hwd
  have HUD := Lib.hid Tryd.underlying24
  have HDG := Lib.hid (show ∀ l : List UInt8, l.length = 32 → (Tryd.prog.info? 24).map (·.size) = some (u8s l).length from fun l hl => by rw [u8s_length, hl]; exact infoDg)
  have HLG := Lib.hid (show ∀ x, (Tryd.prog.info? 26).map (·.size) = some (encG x).length from fun x => by rw [encG_len]; exact infoRng)
  have HLL := Lib.hid (show ∀ x y, (encG x).length = (encG y).length from fun x y => by rw [encG_len, encG_len])
  have HK := Lib.hid hk
  clear hE hwd hcm _hlc hr0 hr1 hk0 hb0 hk
  obtain ⟨n, hn⟩ : ∃ n, n = l.length := ⟨_, rfl⟩
  rw [← hn] at hn63 ⊢
  have HN := Lib.hid hn
  clear hn
  go_enter Tryd.func6, Tryd.ntmps6
  go_upto_region 1 with (fail)
  obtain ⟨g4, hg4⟩ : ∃ g, g = w.heap.size := ⟨_, rfl⟩
  obtain ⟨g5, hg5⟩ : ∃ g, g = w.heap.size + 1 := ⟨_, rfl⟩
  rw [← hg5] at HKw0 ⊢
  rw [← hg4] at HRw0 ⊢
  clear hg4 hg5
  generalize (w.alloc (.cells (encG r).toArray 26)).alloc (.cells (u8s k).toArray 24) = w0 at HRw0 HKw0 HBw0 ⊢
  go_upto_region 3 with ((go_at_call 13; (with_reducible refine Calls.mono (awake_any w0 (HW.out.below HBw0.out HW.out.lt)) ?_); rintro e w1 ⟨rfl, hb⟩; have HBw1 := Lib.hid (HBw0.out.trans (hb.mono HBw0.out.size)); have HRw1 := Lib.hid (HRw0.out.below hb HRw0.out.lt); have HKw1 := Lib.hid (HKw0.out.below hb HKw0.out.lt); clear hb))
  by_cases h80 : 80 < n
  · have h80z : (80 : Int) < (n : Int) := by omega
    go_wp2_with fail
    go_ret
    exact ⟨rfl, HBw1.out⟩
  have h80z : ¬ (80 : Int) < (n : Int) := by omega
  obtain ⟨z, hz⟩ : ∃ z, z = ofZ r l := ⟨_, rfl⟩
  obtain ⟨er, her⟩ : ∃ e, e = ofE r := ⟨_, rfl⟩
  obtain ⟨PL, hPL⟩ : ∃ p, p = partsZ r l := ⟨_, rfl⟩
  obtain ⟨pe, hpe⟩ : ∃ e, e = partsE r := ⟨_, rfl⟩
  obtain ⟨PN, hPN⟩ : ∃ n, n = PL.length := ⟨_, rfl⟩
  have hPN4 : PN ≤ 4 := by rw [hPN, hPL]; rcases partsz_cases r l with ⟨_, _, h3, _⟩ | ⟨_, h3, _⟩ <;> rw [h3] <;> simp [partsR]
  obtain ⟨NI, hNI⟩ : ∃ N, N = (itemsR r l).length := ⟨_, rfl⟩
  obtain ⟨NS, hNS⟩ : ∃ N, N = (sortR l).length := ⟨_, rfl⟩
  obtain ⟨gb, hgb⟩ : ∃ b, b = goodB r := ⟨_, rfl⟩
  obtain ⟨ib, hib⟩ : ∃ b, b = inB r k := ⟨_, rfl⟩
  have hNI80 : NI ≤ 80 := by have h1 := itemsR_len r l; have h2 := HN.out; omega
  have hNS80 : NS ≤ 80 := by have h1 := sortR_len l; have h2 := HN.out; omega
  have HOF := Lib.hid (show ∀ W, Below w.heap.size w W → Calls Tryd.prog 15 #[.int .i64 r.depth, .int .i64 r.pref, .slice A n c] W fun e w' => e = .returned (.tuple #[.agg (encG z).toArray, .int .i64 er]) ∧ Below W.heap.size W w' from fun W hW => by rw [hz, her]; exact ofz_any r A c n l W HN.out (HE.out.up hW) (by omega) (HW.out.below hW HW.out.lt))
  have HROF := Lib.hid (show ∀ W, Below w.heap.size w W → Calls Tryd.prog 23 #[.int .i64 r.depth, .int .i64 r.pref, .slice A n c] W fun e w' => e = .returned (.tuple #[.agg (encG z).toArray, .int .i64 er]) ∧ Below W.heap.size W w' from fun W hW => by rw [hz, her]; exact refofz_any r A c n l W HN.out (HE.out.up hW) (by omega))
  have HPT := Lib.hid (show ∀ W, Below w.heap.size w W → Calls Tryd.prog 24 #[.agg (encG r).toArray, .slice A n c] W fun e w' => ∃ A' c', e = .returned (.tuple #[.slice A' PN c', .int .i64 pe]) ∧ PN ≤ c' ∧ EncIn encG 35 w' A' PL ∧ Below W.heap.size W w' from fun W hW => by rw [hPL] at hPN ⊢; rw [hpe]; exact partsz_any r A c n l W HN.out (HE.out.up hW) (by omega) (HW.out.below hW HW.out.lt) PN hPN)
  have HRPT := Lib.hid (show ∀ W, Below w.heap.size w W → Calls Tryd.prog 25 #[.agg (encG r).toArray, .slice A n c] W fun e w' => ∃ A' c', e = .returned (.tuple #[.slice A' PN c', .int .i64 pe]) ∧ PN ≤ c' ∧ EncIn encG 35 w' A' PL ∧ Below W.heap.size W w' from fun W hW => by rw [hPL] at hPN ⊢; rw [hpe]; exact refpartsz_any r A c n l W HN.out (HE.out.up hW) (by omega) PN hPN)
  have HPN := Lib.hid hPN
  have HNI := Lib.hid hNI
  have HNS := Lib.hid hNS
  have HGB := Lib.hid hgb
  have HIB := Lib.hid hib
  have c1a := HRw1.out.depth
  have c1b := HRw1.out.pref
  clear hz her hPL hpe hPN hNI hNS hgb hib
  go_upto_region 9 with (first
    | (go_at_call 15; (with_reducible refine Calls.mono (HOF.out _ HBw1.out) ?_); rintro e w2 ⟨rfl, hb⟩; have HBw2 := Lib.hid (HBw1.out.trans (hb.mono HBw1.out.size)); have HRw2 := Lib.hid (HRw1.out.below hb HRw1.out.lt); have HKw2 := Lib.hid (HKw1.out.below hb HKw1.out.lt); clear hb c1a c1b)
    | ((with_reducible refine wpList_allocZ (o := ⟨some 7, _, _, _, _, _⟩) 26 (encG default) rfl rfl zeroRng ?_); intro g7 w3 hg hat hb; have HAT7 := Lib.hid hat; have HBA7 := Lib.hid hb; have HGE7 := Lib.hid hg; clear hat hb hg)
    | ((with_reducible refine wpList_storeAll rfl 26 (.tmp 7) (.tmp 27) rfl g7 rfl _ _ (encG z) HAT7.out rfl (HLL.out _ _) (HLG.out _) (encG_one _) ?_); intro w4 hat hg hs; have hbb := Below.ofGrown HBA7.out hg HBA7.out.size (Nat.le_of_eq HGE7.out.symm); have HZ7w4 := Lib.hid hat; have HBw4 := Lib.hid (HBw2.out.trans (hbb.mono HBw2.out.size)); have HRw4 := Lib.hid (HRw2.out.below hbb HRw2.out.lt); have HKw4 := Lib.hid (HKw2.out.below hbb HKw2.out.lt); clear hat hg hs hbb; have c4a := HRw4.out.depth; have c4b := HRw4.out.pref)
    | (go_at_call 23; (with_reducible refine Calls.mono (HROF.out _ HBw4.out) ?_); rintro e w5 ⟨rfl, hb⟩; have HBw5 := Lib.hid (HBw4.out.trans (hb.mono HBw4.out.size)); have HRw5 := Lib.hid (HRw4.out.below hb HRw4.out.lt); have HKw5 := Lib.hid (HKw4.out.below hb HKw4.out.lt); have HZ7w5 := Lib.hid (HZ7w4.out.below hb HZ7w4.out.lt); clear hb c4a c4b)
    | ((with_reducible refine wpList_allocZ (o := ⟨some 9, _, _, _, _, _⟩) 26 (encG default) rfl rfl zeroRng ?_); intro g9 w6 hg hat hb; have HAT9 := Lib.hid hat; have HBA9 := Lib.hid hb; have HGE9 := Lib.hid hg; clear hat hb hg)
    | ((with_reducible refine wpList_storeAll rfl 26 (.tmp 9) (.tmp 36) rfl g9 rfl _ _ (encG z) HAT9.out rfl (HLL.out _ _) (HLG.out _) (encG_one _) ?_); intro w7 hat hg hs; have hbb := Below.ofGrown HBA9.out hg HBA9.out.size (Nat.le_of_eq HGE9.out.symm); have HZ9w7 := Lib.hid hat; have HBw7 := Lib.hid (HBw5.out.trans (hbb.mono HBw5.out.size)); have HRw7 := Lib.hid (HRw5.out.below hbb HRw5.out.lt); have HKw7 := Lib.hid (HKw5.out.below hbb HKw5.out.lt); have HZ7w7 := Lib.hid (HZ7w5.out.below hbb HZ7w5.out.lt); clear hat hg hs hbb)
    | (with_reducible refine wpList_loadAll rfl 26 (.tmp 4) rfl g4 rfl _ _ _ (HRw7.out) Tryd.underlying26 rfl (HLG.out _) ?_)
    | (go_at_call 24; (with_reducible refine Calls.mono (HPT.out _ HBw7.out) ?_); rintro e w8 ⟨A11, c11, rfl, _, hE, hb⟩; have HEP := Lib.hid hE; have HBw8 := Lib.hid (HBw7.out.trans (hb.mono HBw7.out.size)); have HRw8 := Lib.hid (HRw7.out.below hb HRw7.out.lt); have HKw8 := Lib.hid (HKw7.out.below hb HKw7.out.lt); have HZ7w8 := Lib.hid (HZ7w7.out.below hb HZ7w7.out.lt); have HZ9w8 := Lib.hid (HZ9w7.out.below hb HZ9w7.out.lt); clear hE hb)
    | (with_reducible refine wpList_loadAll rfl 26 (.tmp 4) rfl g4 rfl _ _ _ (HRw8.out) Tryd.underlying26 rfl (HLG.out _) ?_)
    | (go_at_call 25; (with_reducible refine Calls.mono (HRPT.out _ HBw8.out) ?_); rintro e w9 ⟨A13, c13, rfl, _, hE, hb⟩; have HEQ := Lib.hid hE; have HBw9 := Lib.hid (HBw8.out.trans (hb.mono HBw8.out.size)); have HRw9 := Lib.hid (HRw8.out.below hb HRw8.out.lt); have HKw9 := Lib.hid (HKw8.out.below hb HKw8.out.lt); have HZ7w9 := Lib.hid (HZ7w8.out.below hb HZ7w8.out.lt); have HZ9w9 := Lib.hid (HZ9w8.out.below hb HZ9w8.out.lt); have HBB9 := Lib.hid hb; clear hE hb))
  have HS4 := Lib.hid (show ∀ W, Behind w9 W → At W g4 26 (encG r) from fun W h => HRw9.out.below h HRw9.out.lt)
  have HS5 := Lib.hid (show ∀ W, Behind w9 W → At W g5 24 (u8s k) from fun W h => HKw9.out.below h HKw9.out.lt)
  have HS7 := Lib.hid (show ∀ W, Behind w9 W → At W g7 26 (encG z) from fun W h => HZ7w9.out.below h HZ7w9.out.lt)
  have HS9 := Lib.hid (show ∀ W, Behind w9 W → At W g9 26 (encG z) from fun W h => HZ9w9.out.below h HZ9w9.out.lt)
  have HEL := Lib.hid (show ∀ W, Behind w9 W → EncIn encR 65 W A l from fun W h => HE.out.up (Below.trans HBw9.out (Below.mono h HBw9.out.size)))
  have HEQZ := Lib.hid (show ∀ w, (binOp .eql 26 (.agg (encG z).toArray) (.agg (encG z).toArray)).run Tryd.prog w = .ok (.bool true) w from fun w => by have h := run_eql_rng w z z; rw [decide_eq_true rfl] at h; exact h)
  refine wp_region_mix [(0, true), (1, true), (2, true), (3, true), (4, true), (5, true), (6, true), (7, true), (8, true), (9, true), (10, true), (11, false), (12, true), (13, true), (14, true), (15, true), (16, true), (17, true), (18, true), (19, true), (20, true), (22, true), (23, true), (21, false), (24, false), (25, false), (26, true), (27, true), (28, true), (30, true), (29, false), (31, false), (32, false), (33, true), (34, true), (35, true), (37, true), (36, false), (38, false), (39, true), (40, true), (41, true), (42, true), (43, true), (45, true), (46, true), (44, false), (47, false), (48, true), (49, true), (50, true)] (Behind w9)
    (by kernel_rfl) (by kernel_rfl) (fun _ _ d _ _ h => by cases d <;> exact h) (by kernel_rfl) (by decide) (Below.refl _ _).drew ?_
  have hz0 : Behind w9 w9.drew := (Below.refl _ _).drew
  repeat (
    refine wpMix_q (by with_unfolding_all rfl) (by kernel_rfl) ?_
    first
      | go_big_quiet_skip
      | ((with_reducible refine wpQuiet_loadAll (by with_unfolding_all rfl) 26 _ (by with_unfolding_all rfl) g7 (0) (by with_unfolding_all rfl) (encG z) _ (fun w h => (HS7.out w h).all) Tryd.underlying26 (by with_unfolding_all rfl) (HLG.out _) ?_); simp only [Act.put, List.setIfInBounds_toArray, List.set_cons_zero, List.set_cons_succ])
      | ((with_reducible refine wpQuiet_loadAll (by with_unfolding_all rfl) 26 _ (by with_unfolding_all rfl) g9 (0) (by with_unfolding_all rfl) (encG z) _ (fun w h => (HS9.out w h).all) Tryd.underlying26 (by with_unfolding_all rfl) (HLG.out _) ?_); simp only [Act.put, List.setIfInBounds_toArray, List.set_cons_zero, List.set_cons_succ])
      | ((with_reducible refine wpQuiet_loadAll (by with_unfolding_all rfl) 26 _ (by with_unfolding_all rfl) g4 (0) (by with_unfolding_all rfl) (encG r) _ (fun w h => (HS4.out w h).all) Tryd.underlying26 (by with_unfolding_all rfl) (HLG.out _) ?_); simp only [Act.put, List.setIfInBounds_toArray, List.set_cons_zero, List.set_cons_succ])
      | ((with_reducible refine wpQuiet_loadAll (by with_unfolding_all rfl) 24 _ (by with_unfolding_all rfl) g5 (0) (by with_unfolding_all rfl) (u8s k) _ (fun w h => (HS5.out w h).all) HUD.out (by with_unfolding_all rfl) (HDG.out _ HK.out) ?_); simp only [Act.put, List.setIfInBounds_toArray, List.set_cons_zero, List.set_cons_succ])
      | ((with_reducible refine wpQuiet_bin (by with_unfolding_all rfl) .eql 26 _ _ _ (by with_unfolding_all rfl) (.agg (encG z).toArray) (.agg (encG z).toArray) (.bool true) (by with_unfolding_all rfl) (by with_unfolding_all rfl) (fun w => run_eqGuard_rng w _ _ _ _ _) HEQZ.out ?_); simp only [Act.put, List.setIfInBounds_toArray, List.set_cons_zero, List.set_cons_succ])
      | (go_big_quiet_step (exact fun _ => rfl))
    refine wpMix_qnil ?_)
  refine mix_callv 26 [.slice A11 PN c11, .slice A13 PN c13] (.bool true) (by with_unfolding_all rfl) (by with_unfolding_all rfl) (by with_unfolding_all rfl) ((ranges_any A11 A13 c11 c13 PL PL PN PN _ HPN.out HPN.out (HEP.out.up (Below.trans HBB9.out (Below.mono hz0 HBB9.out.size))) (HEQ.out.up hz0) (by omega) (by omega)).mono (fun e w' ⟨he, hb⟩ => ⟨by rw [he, decide_eq_true rfl], Behind.trans' hz0 hb⟩)) ?_
  intro z1 hz1
  simp only [Act.put, List.setIfInBounds_toArray, List.set_cons_zero, List.set_cons_succ]
  repeat (
    refine wpMix_q (by with_unfolding_all rfl) (by kernel_rfl) ?_
    first
      | go_big_quiet_skip
      | ((with_reducible refine wpQuiet_loadAll (by with_unfolding_all rfl) 26 _ (by with_unfolding_all rfl) g7 (0) (by with_unfolding_all rfl) (encG z) _ (fun w h => (HS7.out w h).all) Tryd.underlying26 (by with_unfolding_all rfl) (HLG.out _) ?_); simp only [Act.put, List.setIfInBounds_toArray, List.set_cons_zero, List.set_cons_succ])
      | ((with_reducible refine wpQuiet_loadAll (by with_unfolding_all rfl) 26 _ (by with_unfolding_all rfl) g9 (0) (by with_unfolding_all rfl) (encG z) _ (fun w h => (HS9.out w h).all) Tryd.underlying26 (by with_unfolding_all rfl) (HLG.out _) ?_); simp only [Act.put, List.setIfInBounds_toArray, List.set_cons_zero, List.set_cons_succ])
      | ((with_reducible refine wpQuiet_loadAll (by with_unfolding_all rfl) 26 _ (by with_unfolding_all rfl) g4 (0) (by with_unfolding_all rfl) (encG r) _ (fun w h => (HS4.out w h).all) Tryd.underlying26 (by with_unfolding_all rfl) (HLG.out _) ?_); simp only [Act.put, List.setIfInBounds_toArray, List.set_cons_zero, List.set_cons_succ])
      | ((with_reducible refine wpQuiet_loadAll (by with_unfolding_all rfl) 24 _ (by with_unfolding_all rfl) g5 (0) (by with_unfolding_all rfl) (u8s k) _ (fun w h => (HS5.out w h).all) HUD.out (by with_unfolding_all rfl) (HDG.out _ HK.out) ?_); simp only [Act.put, List.setIfInBounds_toArray, List.set_cons_zero, List.set_cons_succ])
      | ((with_reducible refine wpQuiet_bin (by with_unfolding_all rfl) .eql 26 _ _ _ (by with_unfolding_all rfl) (.agg (encG z).toArray) (.agg (encG z).toArray) (.bool true) (by with_unfolding_all rfl) (by with_unfolding_all rfl) (fun w => run_eqGuard_rng w _ _ _ _ _) HEQZ.out ?_); simp only [Act.put, List.setIfInBounds_toArray, List.set_cons_zero, List.set_cons_succ])
      | (go_big_quiet_step (exact fun _ => rfl))
    refine wpMix_qnil ?_)
  refine wpMix_call 17 [.agg (encG r).toArray, .slice A n c] (fun v w' => ∃ A' c', v = .slice A' NI c' ∧ EncIn encR 65 w' A' (itemsR r l)) (by with_unfolding_all rfl) (by with_unfolding_all rfl) (by with_unfolding_all rfl) ((items_slice r A c l _ n NI HN.out HNI.out (HEL.out _ hz1) (by omega)).mono (fun e w' ⟨A', c', he, _, hE, hb⟩ => ⟨_, he, Behind.trans' hz1 hb, A', c', rfl, hE⟩)) ?_
  rintro v1 z2 hz2 ⟨A1, c1, rfl, hE1⟩
  simp only [Act.put, List.setIfInBounds_toArray, List.set_cons_zero, List.set_cons_succ]
  refine wpMix_call 27 [.agg (encG r).toArray, .slice A n c] (fun v w' => ∃ A' c', v = .slice A' NI c' ∧ EncIn encR 65 w' A' (itemsR r l) ∧ Below z2.heap.size z2 w') (by with_unfolding_all rfl) (by with_unfolding_all rfl) (by with_unfolding_all rfl) ((refitems_any r A c l _ n NI HN.out HNI.out (HEL.out _ hz2) (by omega)).mono (fun e w' ⟨A', c', he, _, hE, hb⟩ => ⟨_, he, Behind.trans' hz2 hb, A', c', rfl, hE, hb⟩)) ?_
  rintro v2 z3 hz3 ⟨A2, c2, rfl, hE2, hb2⟩
  simp only [Act.put, List.setIfInBounds_toArray, List.set_cons_zero, List.set_cons_succ]
  refine mix_callv 16 [.slice A1 NI c1, .slice A2 NI c2] (.bool true) (by with_unfolding_all rfl) (by with_unfolding_all rfl) (by with_unfolding_all rfl) ((records_any A1 A2 c1 c2 (itemsR r l) (itemsR r l) NI NI z3 HNI.out HNI.out (hE1.up hb2) hE2 (by omega) (by omega)).mono (fun e w' ⟨he, hb⟩ => ⟨by rw [he, decide_eq_true rfl], Behind.trans' hz3 hb⟩)) ?_
  intro z4 hz4
  simp only [Act.put, List.setIfInBounds_toArray, List.set_cons_zero, List.set_cons_succ]
  repeat (
    refine wpMix_q (by with_unfolding_all rfl) (by kernel_rfl) ?_
    first
      | go_big_quiet_skip
      | ((with_reducible refine wpQuiet_loadAll (by with_unfolding_all rfl) 26 _ (by with_unfolding_all rfl) g7 (0) (by with_unfolding_all rfl) (encG z) _ (fun w h => (HS7.out w h).all) Tryd.underlying26 (by with_unfolding_all rfl) (HLG.out _) ?_); simp only [Act.put, List.setIfInBounds_toArray, List.set_cons_zero, List.set_cons_succ])
      | ((with_reducible refine wpQuiet_loadAll (by with_unfolding_all rfl) 26 _ (by with_unfolding_all rfl) g9 (0) (by with_unfolding_all rfl) (encG z) _ (fun w h => (HS9.out w h).all) Tryd.underlying26 (by with_unfolding_all rfl) (HLG.out _) ?_); simp only [Act.put, List.setIfInBounds_toArray, List.set_cons_zero, List.set_cons_succ])
      | ((with_reducible refine wpQuiet_loadAll (by with_unfolding_all rfl) 26 _ (by with_unfolding_all rfl) g4 (0) (by with_unfolding_all rfl) (encG r) _ (fun w h => (HS4.out w h).all) Tryd.underlying26 (by with_unfolding_all rfl) (HLG.out _) ?_); simp only [Act.put, List.setIfInBounds_toArray, List.set_cons_zero, List.set_cons_succ])
      | ((with_reducible refine wpQuiet_loadAll (by with_unfolding_all rfl) 24 _ (by with_unfolding_all rfl) g5 (0) (by with_unfolding_all rfl) (u8s k) _ (fun w h => (HS5.out w h).all) HUD.out (by with_unfolding_all rfl) (HDG.out _ HK.out) ?_); simp only [Act.put, List.setIfInBounds_toArray, List.set_cons_zero, List.set_cons_succ])
      | ((with_reducible refine wpQuiet_bin (by with_unfolding_all rfl) .eql 26 _ _ _ (by with_unfolding_all rfl) (.agg (encG z).toArray) (.agg (encG z).toArray) (.bool true) (by with_unfolding_all rfl) (by with_unfolding_all rfl) (fun w => run_eqGuard_rng w _ _ _ _ _) HEQZ.out ?_); simp only [Act.put, List.setIfInBounds_toArray, List.set_cons_zero, List.set_cons_succ])
      | (go_big_quiet_step (exact fun _ => rfl))
    refine wpMix_qnil ?_)
  refine wpMix_call 20 [.slice A n c] (fun v w' => ∃ A' c', v = .slice A' NS c' ∧ EncIn encR 65 w' A' (sortR l)) (by with_unfolding_all rfl) (by with_unfolding_all rfl) (by with_unfolding_all rfl) ((sort_slice A c l _ n NS HN.out HNS.out (HEL.out _ hz4) (by omega)).mono (fun e w' ⟨A', c', he, _, hE, hb⟩ => ⟨_, he, Behind.trans' hz4 hb, A', c', rfl, hE⟩)) ?_
  rintro v3 z5 hz5 ⟨A3, c3, rfl, hE3⟩
  simp only [Act.put, List.setIfInBounds_toArray, List.set_cons_zero, List.set_cons_succ]
  refine wpMix_call 28 [.slice A n c] (fun v w' => ∃ A' c', v = .slice A' NS c' ∧ EncIn encR 65 w' A' (sortR l) ∧ Below z5.heap.size z5 w') (by with_unfolding_all rfl) (by with_unfolding_all rfl) (by with_unfolding_all rfl) ((refsort_any A c l _ n NS HN.out HNS.out (HEL.out _ hz5) (by omega)).mono (fun e w' ⟨A', c', he, _, hE, hb⟩ => ⟨_, he, Behind.trans' hz5 hb, A', c', rfl, hE, hb⟩)) ?_
  rintro v4 z6 hz6 ⟨A4, c4, rfl, hE4, hb4⟩
  simp only [Act.put, List.setIfInBounds_toArray, List.set_cons_zero, List.set_cons_succ]
  refine mix_callv 16 [.slice A3 NS c3, .slice A4 NS c4] (.bool true) (by with_unfolding_all rfl) (by with_unfolding_all rfl) (by with_unfolding_all rfl) ((records_any A3 A4 c3 c4 (sortR l) (sortR l) NS NS z6 HNS.out HNS.out (hE3.up hb4) hE4 (by omega) (by omega)).mono (fun e w' ⟨he, hb⟩ => ⟨by rw [he, decide_eq_true rfl], Behind.trans' hz6 hb⟩)) ?_
  intro z7 hz7
  simp only [Act.put, List.setIfInBounds_toArray, List.set_cons_zero, List.set_cons_succ]
  repeat (
    refine wpMix_q (by with_unfolding_all rfl) (by kernel_rfl) ?_
    first
      | go_big_quiet_skip
      | ((with_reducible refine wpQuiet_loadAll (by with_unfolding_all rfl) 26 _ (by with_unfolding_all rfl) g7 (0) (by with_unfolding_all rfl) (encG z) _ (fun w h => (HS7.out w h).all) Tryd.underlying26 (by with_unfolding_all rfl) (HLG.out _) ?_); simp only [Act.put, List.setIfInBounds_toArray, List.set_cons_zero, List.set_cons_succ])
      | ((with_reducible refine wpQuiet_loadAll (by with_unfolding_all rfl) 26 _ (by with_unfolding_all rfl) g9 (0) (by with_unfolding_all rfl) (encG z) _ (fun w h => (HS9.out w h).all) Tryd.underlying26 (by with_unfolding_all rfl) (HLG.out _) ?_); simp only [Act.put, List.setIfInBounds_toArray, List.set_cons_zero, List.set_cons_succ])
      | ((with_reducible refine wpQuiet_loadAll (by with_unfolding_all rfl) 26 _ (by with_unfolding_all rfl) g4 (0) (by with_unfolding_all rfl) (encG r) _ (fun w h => (HS4.out w h).all) Tryd.underlying26 (by with_unfolding_all rfl) (HLG.out _) ?_); simp only [Act.put, List.setIfInBounds_toArray, List.set_cons_zero, List.set_cons_succ])
      | ((with_reducible refine wpQuiet_loadAll (by with_unfolding_all rfl) 24 _ (by with_unfolding_all rfl) g5 (0) (by with_unfolding_all rfl) (u8s k) _ (fun w h => (HS5.out w h).all) HUD.out (by with_unfolding_all rfl) (HDG.out _ HK.out) ?_); simp only [Act.put, List.setIfInBounds_toArray, List.set_cons_zero, List.set_cons_succ])
      | ((with_reducible refine wpQuiet_bin (by with_unfolding_all rfl) .eql 26 _ _ _ (by with_unfolding_all rfl) (.agg (encG z).toArray) (.agg (encG z).toArray) (.bool true) (by with_unfolding_all rfl) (by with_unfolding_all rfl) (fun w => run_eqGuard_rng w _ _ _ _ _) HEQZ.out ?_); simp only [Act.put, List.setIfInBounds_toArray, List.set_cons_zero, List.set_cons_succ])
      | (go_big_quiet_step (exact fun _ => rfl))
    refine wpMix_qnil ?_)
  refine mix_callv 14 [.agg (encG r).toArray] (.bool gb) (by with_unfolding_all rfl) (by with_unfolding_all rfl) (by with_unfolding_all rfl) ((good_any r _).mono (fun e w' ⟨he, hb⟩ => ⟨by rw [he, HGB.out], Behind.trans' hz7 hb⟩)) ?_
  intro z8 hz8
  simp only [Act.put, List.setIfInBounds_toArray, List.set_cons_zero, List.set_cons_succ]
  refine mix_callv 29 [.agg (encG r).toArray] (.bool gb) (by with_unfolding_all rfl) (by with_unfolding_all rfl) (by with_unfolding_all rfl) ((refgood_any r _).mono (fun e w' ⟨he, hb⟩ => ⟨by rw [he, HGB.out], Behind.trans' hz8 hb⟩)) ?_
  intro z9 hz9
  simp only [Act.put, List.setIfInBounds_toArray, List.set_cons_zero, List.set_cons_succ]
  repeat (
    refine wpMix_q (by with_unfolding_all rfl) (by kernel_rfl) ?_
    first
      | go_big_quiet_skip
      | ((with_reducible refine wpQuiet_loadAll (by with_unfolding_all rfl) 26 _ (by with_unfolding_all rfl) g7 (0) (by with_unfolding_all rfl) (encG z) _ (fun w h => (HS7.out w h).all) Tryd.underlying26 (by with_unfolding_all rfl) (HLG.out _) ?_); simp only [Act.put, List.setIfInBounds_toArray, List.set_cons_zero, List.set_cons_succ])
      | ((with_reducible refine wpQuiet_loadAll (by with_unfolding_all rfl) 26 _ (by with_unfolding_all rfl) g9 (0) (by with_unfolding_all rfl) (encG z) _ (fun w h => (HS9.out w h).all) Tryd.underlying26 (by with_unfolding_all rfl) (HLG.out _) ?_); simp only [Act.put, List.setIfInBounds_toArray, List.set_cons_zero, List.set_cons_succ])
      | ((with_reducible refine wpQuiet_loadAll (by with_unfolding_all rfl) 26 _ (by with_unfolding_all rfl) g4 (0) (by with_unfolding_all rfl) (encG r) _ (fun w h => (HS4.out w h).all) Tryd.underlying26 (by with_unfolding_all rfl) (HLG.out _) ?_); simp only [Act.put, List.setIfInBounds_toArray, List.set_cons_zero, List.set_cons_succ])
      | ((with_reducible refine wpQuiet_loadAll (by with_unfolding_all rfl) 24 _ (by with_unfolding_all rfl) g5 (0) (by with_unfolding_all rfl) (u8s k) _ (fun w h => (HS5.out w h).all) HUD.out (by with_unfolding_all rfl) (HDG.out _ HK.out) ?_); simp only [Act.put, List.setIfInBounds_toArray, List.set_cons_zero, List.set_cons_succ])
      | ((with_reducible refine wpQuiet_bin (by with_unfolding_all rfl) .eql 26 _ _ _ (by with_unfolding_all rfl) (.agg (encG z).toArray) (.agg (encG z).toArray) (.bool true) (by with_unfolding_all rfl) (by with_unfolding_all rfl) (fun w => run_eqGuard_rng w _ _ _ _ _) HEQZ.out ?_); simp only [Act.put, List.setIfInBounds_toArray, List.set_cons_zero, List.set_cons_succ])
      | (go_big_quiet_step (exact fun _ => rfl))
    refine wpMix_qnil ?_)
  refine mix_callv 22 [.agg (encG r).toArray, .agg (u8s k).toArray] (.bool ib) (by with_unfolding_all rfl) (by with_unfolding_all rfl) (by with_unfolding_all rfl) ((in_any r k HK.out _).mono (fun e w' ⟨he, hb⟩ => ⟨by rw [he, HIB.out], Behind.trans' hz9 hb⟩)) ?_
  intro z10 hz10
  simp only [Act.put, List.setIfInBounds_toArray, List.set_cons_zero, List.set_cons_succ]
  refine mix_callv 30 [.agg (encG r).toArray, .agg (u8s k).toArray] (.bool ib) (by with_unfolding_all rfl) (by with_unfolding_all rfl) (by with_unfolding_all rfl) ((refin_any r k HK.out _).mono (fun e w' ⟨he, hb⟩ => ⟨by rw [he, HIB.out], Behind.trans' hz10 hb⟩)) ?_
  intro z11 hz11
  simp only [Act.put, List.setIfInBounds_toArray, List.set_cons_zero, List.set_cons_succ]
  repeat (
    refine wpMix_q (by with_unfolding_all rfl) (by kernel_rfl) ?_
    first
      | go_big_quiet_skip
      | ((with_reducible refine wpQuiet_loadAll (by with_unfolding_all rfl) 26 _ (by with_unfolding_all rfl) g7 (0) (by with_unfolding_all rfl) (encG z) _ (fun w h => (HS7.out w h).all) Tryd.underlying26 (by with_unfolding_all rfl) (HLG.out _) ?_); simp only [Act.put, List.setIfInBounds_toArray, List.set_cons_zero, List.set_cons_succ])
      | ((with_reducible refine wpQuiet_loadAll (by with_unfolding_all rfl) 26 _ (by with_unfolding_all rfl) g9 (0) (by with_unfolding_all rfl) (encG z) _ (fun w h => (HS9.out w h).all) Tryd.underlying26 (by with_unfolding_all rfl) (HLG.out _) ?_); simp only [Act.put, List.setIfInBounds_toArray, List.set_cons_zero, List.set_cons_succ])
      | ((with_reducible refine wpQuiet_loadAll (by with_unfolding_all rfl) 26 _ (by with_unfolding_all rfl) g4 (0) (by with_unfolding_all rfl) (encG r) _ (fun w h => (HS4.out w h).all) Tryd.underlying26 (by with_unfolding_all rfl) (HLG.out _) ?_); simp only [Act.put, List.setIfInBounds_toArray, List.set_cons_zero, List.set_cons_succ])
      | ((with_reducible refine wpQuiet_loadAll (by with_unfolding_all rfl) 24 _ (by with_unfolding_all rfl) g5 (0) (by with_unfolding_all rfl) (u8s k) _ (fun w h => (HS5.out w h).all) HUD.out (by with_unfolding_all rfl) (HDG.out _ HK.out) ?_); simp only [Act.put, List.setIfInBounds_toArray, List.set_cons_zero, List.set_cons_succ])
      | ((with_reducible refine wpQuiet_bin (by with_unfolding_all rfl) .eql 26 _ _ _ (by with_unfolding_all rfl) (.agg (encG z).toArray) (.agg (encG z).toArray) (.bool true) (by with_unfolding_all rfl) (by with_unfolding_all rfl) (fun w => run_eqGuard_rng w _ _ _ _ _) HEQZ.out ?_); simp only [Act.put, List.setIfInBounds_toArray, List.set_cons_zero, List.set_cons_succ])
      | (go_big_quiet_step (exact fun _ => rfl))
    refine wpMix_qnil ?_)
  refine wpMix_nil ?_
  go_wp2_with fail
  go_ret
  exact ⟨rfl, HBw9.out.trans (Below.mono hz11 HBw9.out.size)⟩
end Go.Proofs.YtefbllhpibfojaaDoor
