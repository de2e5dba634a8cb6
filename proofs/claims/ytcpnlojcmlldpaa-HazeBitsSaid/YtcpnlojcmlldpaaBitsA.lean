/- HazeBits: the plain law, the walk. -/
import Derived.Test.YtcpnlojcmlldpaaHazeK
namespace Go.Proofs.Ytcpnlojcmlldpaa
open Go.RowKit Go.Maps Go.Sort

theorem law_has (a b : List UInt8) : Hz.has (Hz.withKeys Hz.zero [a]) b = (Hz.withKeys Hz.zero [a, b] == Hz.withKeys Hz.zero [a]) := rfl
theorem law_pos (a : List UInt8) : 1 ≤ Hz.count (Hz.withKeys Hz.zero [a]) := by
  refine Hz.count_pos (by rw [Hz.withKeys_len]; rfl) (m := Hz.mark a 0) (Hz.mark_lt a 0) ?_
  rw [Hz.bit_withKeys _ rfl]
  have : Hz.mark a 0 ∈ Hz.marks a := List.mem_cons_self
  simp [this]
theorem law_four (a : List UInt8) : Hz.count (Hz.withKeys Hz.zero [a]) ≤ 4 := by
  refine Hz.count_le (by rw [Hz.withKeys_len]; rfl) (Hz.marks a) fun m _ hb => ?_
  rw [Hz.bit_withKeys _ rfl, Hz.bit_zero] at hb
  simpa using hb
theorem law_eight (a b : List UInt8) : Hz.count (Hz.withKeys Hz.zero [a, b]) ≤ 8 := by
  refine Hz.count_le (by rw [Hz.withKeys_len]; rfl) (Hz.marks a ++ Hz.marks b) fun m _ hb => ?_
  rw [Hz.bit_withKeys _ rfl, Hz.bit_zero] at hb
  simpa using hb
theorem law_none (a : List UInt8) : Hz.has Hz.zero a = false := by
  rw [Bool.eq_false_iff]
  intro h
  have := (Hz.has_iff rfl a).1 h (Hz.mark a 0) List.mem_cons_self
  rw [Hz.bit_zero] at this
  cases this

set_option maxRecDepth 100000 in
set_option maxHeartbeats 400000 in
theorem bits_any (a b : List UInt8) (w : World) (ha : a.length = 32) (hb : b.length = 32) :
    Calls Try.prog 3 #[.agg (u8s a).toArray, .agg (u8s b).toArray] w fun e w' => e = .returned (.bool true) ∧ Below w.heap.size w w' := by
  have hik : (Try.prog.info? 23).map (·.size) = some (u8s a).toArray.size := by
    rw [List.size_toArray, u8s_len, ha]
    kernel_rfl
  have hik2 : (Try.prog.info? 23).map (·.size) = some (u8s b).toArray.size := by
    rw [List.size_toArray, u8s_len, hb]
    kernel_rfl
  have HUD := Lib.hid Try.underlying23
  have HUH := Lib.hid Try.underlying26
  have HIA := Lib.hid (show (Try.prog.info? 23).map (·.size) = some (u8s a).length by rw [u8s_len, ha]; kernel_rfl)
  have HIB := Lib.hid (show (Try.prog.info? 23).map (·.size) = some (u8s b).length by rw [u8s_len, hb]; kernel_rfl)
  have HLA := Lib.hid ha
  have HLB := Lib.hid hb
  clear ha hb
  go_enter Try.func3, Try.ntmps3
  go_wp2_with fail
  refine (awake_any _).mono ?_
  rintro e w1 ⟨rfl, hb⟩
  have hA0 : At (w.alloc (.cells (u8s a).toArray 23)) w.heap.size 23 (u8s a) := At.newA w _ rfl
  have hB0 : At ((w.alloc (.cells (u8s a).toArray 23)).alloc (.cells (u8s b).toArray 23)) (w.heap.size + 1) 23 (u8s b) := at_new_at _ _ (by simp) rfl
  have hA1 : At w1 w.heap.size 23 (u8s a) := (hA0.alloc _).below hb (hA0.alloc _).lt
  have hB1 : At w1 (w.heap.size + 1) 23 (u8s b) := hB0.below hb hB0.lt
  have hb01 : Below w.heap.size w w1 := (((Below.refl _ _).alloc (Nat.le_refl _) _).alloc (by simp) _).trans (hb.mono (by simp; omega))
  have HA := Lib.hid hA1
  have HB := Lib.hid hB1
  have HB1 := Lib.hid hb01
  have hq : w.heap.size + 1 < w1.heap.size := hB1.lt
  clear hA0 hB0 hA1 hB1 hb01 hb hik hik2
  obtain ⟨qb, hqb⟩ : ∃ qb, qb = w.heap.size + 1 := ⟨_, rfl⟩
  rw [← hqb] at HB hq ⊢
  have HQ := Lib.hid hqb
  clear hqb
  go_wp2_with (first
    | (with_reducible refine wpList_loadAll rfl 23 (.tmp 2) rfl _ rfl _ _ _ HA.out HUD.out rfl HIA.out ?_)
    | (refine wpList_build_dg rfl a HLA.out (.tmp 9) rfl rfl ?_))
  refine (of_any _ _ [a] _ (one_key_at w1 a rfl) (by intro x hx; rw [List.mem_singleton.1 hx]; exact HLA.out) (by simp [maxLen])).mono ?_
  obtain ⟨h, hh⟩ : ∃ h, h = Hz.withKeys Hz.zero [a] := ⟨_, rfl⟩
  rw [← hh]
  have hhl : h.length = 64 := by rw [hh, Hz.withKeys_len]; rfl
  have HH := Lib.hid hh
  have HHL := Lib.hid hhl
  have HI1 := Lib.hid (show (Try.prog.info? 26).map (·.size) = some (u8s h).length by rw [u8s_len, hhl]; kernel_rfl)
  have HL1 := Lib.hid (show (u8s h).length = (u8s Hz.zero).length by rw [u8s_len, hhl]; rfl)
  clear hh hhl
  rintro e w2 ⟨rfl, hb2⟩
  have hb12 : Below w1.heap.size w1 w2 := ((Below.refl _ _).alloc (Nat.le_refl _) _).trans (hb2.mono (by simp))
  have HA2 := Lib.hid (HA.out.below hb12 HA.out.lt)
  have HB2 := Lib.hid (HB.out.below hb12 HB.out.lt)
  have HBW2 := Lib.hid (HB1.out.trans (hb12.mono HB1.out.size))
  have HZ2 := Lib.hid (show At (w2.alloc (.cells (u8s Hz.zero).toArray 26)) w2.heap.size 26 (u8s Hz.zero) from At.newA w2 _ rfl)
  have hq2 : qb < w2.heap.size := HB2.out.lt
  have hqa2 : w.heap.size < w2.heap.size := HA2.out.lt
  have HC2 := Lib.hid (fun (w3 : World) (hg3 : (w2.alloc (.cells (u8s Hz.zero).toArray 26)).grownBy w3 (some w2.heap.size)) => show Below w2.heap.size w2 w3 from Below.ofGrown ((Below.refl _ _).alloc (Nat.le_refl _) _) hg3 ((Below.refl _ _).alloc (Nat.le_refl _) _).size (Nat.le_refl _))
  clear hb2 hb12 HA HB HB1
  go_wp2_with (first
    | (refine wpList_storeAll rfl 26 (.tmp 5) (.tmp 11) rfl _ rfl _ (u8s Hz.zero) (u8s h) HZ2.out rfl HL1.out HI1.out (u8s_one h) ?_; intro w3 hat3 hg3 hs3; have hb3 := HC2.out w3 hg3; have HA3 := Lib.hid (HA2.out.below hb3 HA2.out.lt); have HB3 := Lib.hid (HB2.out.below hb3 HB2.out.lt); clear hg3)
    | (with_reducible refine wpList_loadAll rfl 23 (.tmp 2) rfl _ rfl _ _ _ HA3.out HUD.out rfl HIA.out ?_)
    | (with_reducible refine wpList_loadAll rfl 23 (.tmp 3) rfl _ rfl _ _ _ HB3.out HUD.out rfl HIB.out ?_)
    | (refine wpList_build_dg2 rfl a b HLA.out HLB.out (.tmp 12) (.tmp 13) rfl rfl rfl ?_))
  have hs3' : w3.heap.size = w2.heap.size + 1 := by rw [hs3, World.size_alloc]
  refine (of_any _ _ [a, b] _ (bytes_laid w3 _ 32 [a, b] (by intro x hx; rcases List.mem_cons.1 hx with rfl | hx; exact HLA.out; rw [List.mem_singleton.1 hx]; exact HLB.out) (by rw [hs3']) (by simp)) (by intro x hx; rcases List.mem_cons.1 hx with rfl | hx; exact HLA.out; rw [List.mem_singleton.1 hx]; exact HLB.out) (by simp [maxLen])).mono ?_
  obtain ⟨g, hg⟩ : ∃ g, g = Hz.withKeys Hz.zero [a, b] := ⟨_, rfl⟩
  rw [← hg]
  have hgl : g.length = 64 := by rw [hg, Hz.withKeys_len]; rfl
  have HG := Lib.hid hg
  have HGL := Lib.hid hgl
  have HI2 := Lib.hid (show (Try.prog.info? 26).map (·.size) = some (u8s g).length by rw [u8s_len, hgl]; kernel_rfl)
  have HL2 := Lib.hid (show (u8s g).length = (u8s Hz.zero).length by rw [u8s_len, hgl]; rfl)
  clear hg hgl
  rintro e w4 ⟨rfl, hb4⟩
  have hb34 : Below w3.heap.size w3 w4 := ((Below.refl _ _).alloc (Nat.le_refl _) _).trans (hb4.mono (by simp))
  have hb24 : Below w2.heap.size w2 w4 := hb3.trans (hb34.mono hb3.size)
  have HA4 := Lib.hid (HA2.out.below hb24 HA2.out.lt)
  have HB4 := Lib.hid (HB2.out.below hb24 HB2.out.lt)
  have HH4 := Lib.hid (hat3.below hb34 hat3.lt)
  have HBW4 := Lib.hid (HBW2.out.trans (hb24.mono HBW2.out.size))
  have HZ4 := Lib.hid (show At (w4.alloc (.cells (u8s Hz.zero).toArray 26)) w4.heap.size 26 (u8s Hz.zero) from At.newA w4 _ rfl)
  have HC4 := Lib.hid (fun (w3 : World) (hg3 : (w4.alloc (.cells (u8s Hz.zero).toArray 26)).grownBy w3 (some w4.heap.size)) => show Below w4.heap.size w4 w3 from Below.ofGrown ((Below.refl _ _).alloc (Nat.le_refl _) _) hg3 ((Below.refl _ _).alloc (Nat.le_refl _) _).size (Nat.le_refl _))
  clear hb4 hb34 hb24 hb3 hat3 HA2 HB2 HBW2 HA3 HB3 HZ2 hs3 hs3'
  go_wp2_with (first
    | (refine wpList_storeAll rfl 26 (.tmp 6) (.tmp 15) rfl _ rfl _ (u8s Hz.zero) (u8s g) HZ4.out rfl HL2.out HI2.out (u8s_one g) ?_; intro w5 hat5 hg5 hs5))
  have hb45 := HC4.out w5 hg5
  have hA5 := HA4.out.below hb45 HA4.out.lt
  have hB5 := HB4.out.below hb45 HB4.out.lt
  have hH5 := HH4.out.below hb45 HH4.out.lt
  obtain ⟨q5, hq5⟩ : ∃ q5, q5 = w2.heap.size := ⟨_, rfl⟩
  obtain ⟨q6, hq6⟩ : ∃ q6, q6 = w4.heap.size := ⟨_, rfl⟩
  rw [← hq5] at hH5 ⊢
  rw [← hq6] at hat5 ⊢
  clear hq5 hq6
  have HBW5 := Lib.hid (HBW4.out.trans (hb45.mono HBW4.out.size))
  have HRA := Lib.hid (fun w' (hb : Behind w5 w') => behind_range hA5 hb)
  have HRB := Lib.hid (fun w' (hb : Behind w5 w') => behind_range hB5 hb)
  have HRH := Lib.hid (fun w' (hb : Behind w5 w') => behind_range hH5 hb)
  have HRG := Lib.hid (fun w' (hb : Behind w5 w') => behind_range hat5 hb)
  have HX := Lib.hid (show (g == h) = Hz.has h b by rw [HH.out, HG.out]; exact (law_has a b).symm)
  have HC1 := Lib.hid (fun w' (hb : Behind w5 w') => behind_call hb (has_any h b HHL.out HLB.out w'))
  have HC2' := Lib.hid (fun w' (hb : Behind w5 w') => behind_call hb (count_any h HHL.out w'))
  have HC3 := Lib.hid (fun w' (hb : Behind w5 w') => behind_call hb (count_any g HGL.out w'))
  have HC5 := Lib.hid (fun w' (hb : Behind w5 w') => behind_call (v := .int .i64 0) hb (count_any Hz.zero rfl w'))
  have HC6 := Lib.hid (fun w' (hb : Behind w5 w') => behind_call (v := .bool false) hb ((has_any Hz.zero a rfl HLA.out w').mono (fun _ _ he => ⟨by rw [he.1, law_none], he.2⟩)))
  have HE1 := Lib.hid (fun w => by have := run_eql_hz w g h HGL.out HHL.out; rw [HX.out] at this; exact this)
  have HE2 := Lib.hid (fun w => run_eqb (Hz.has h b) (Hz.has h b) rfl w)
  have HE3 := Lib.hid (fun w => run_geq (Hz.count h : Nat) 1 (by have := law_pos a; rw [← HH.out] at this; omega) w)
  have HE4 := Lib.hid (fun w => run_leq (Hz.count h : Nat) 4 (by have := law_four a; rw [← HH.out] at this; omega) w)
  have HE5 := Lib.hid (fun w => run_leq (Hz.count g : Nat) 8 (by have := law_eight a b; rw [← HG.out] at this; omega) w)
  have HE6 := Lib.hid (fun w => run_eqz 0 0 rfl w)
  clear hA5 hB5 hH5 hat5 hb45 hg5 hs5 HA4 HB4 HH4 HZ4 HC4
  refine wp_region_class (Behind w5) (by kernel_rfl) (by kernel_rfl) (Below.refl _ _).drew ?_
  simp only [Act.put]
  iterate 34 (first
    | go_big_quiet_skip
    | (with_reducible refine wpQuiet_loadAll (by with_unfolding_all rfl) 23 _ (by with_unfolding_all rfl) w.heap.size 0 (by with_unfolding_all rfl) (u8s a) _ (fun w h => HRA.out w h) HUD.out (by with_unfolding_all rfl) HIA.out ?_; simp only [Act.put, List.setIfInBounds_toArray, List.set_cons_zero, List.set_cons_succ])
    | (with_reducible refine wpQuiet_loadAll (by with_unfolding_all rfl) 23 _ (by with_unfolding_all rfl) qb 0 (by with_unfolding_all rfl) (u8s b) _ (fun w h => HRB.out w h) HUD.out (by with_unfolding_all rfl) HIB.out ?_; simp only [Act.put, List.setIfInBounds_toArray, List.set_cons_zero, List.set_cons_succ])
    | (with_reducible refine wpQuiet_loadAll (by with_unfolding_all rfl) 26 _ (by with_unfolding_all rfl) q5 0 (by with_unfolding_all rfl) (u8s h) _ (fun w h => HRH.out w h) HUH.out (by with_unfolding_all rfl) HI1.out ?_; simp only [Act.put, List.setIfInBounds_toArray, List.set_cons_zero, List.set_cons_succ])
    | (with_reducible refine wpQuiet_loadAll (by with_unfolding_all rfl) 26 _ (by with_unfolding_all rfl) q6 0 (by with_unfolding_all rfl) (u8s g) _ (fun w h => HRG.out w h) HUH.out (by with_unfolding_all rfl) HI2.out ?_; simp only [Act.put, List.setIfInBounds_toArray, List.set_cons_zero, List.set_cons_succ])
    | (with_reducible refine wpQuiet_call 11 [hzV h, .agg (u8s b).toArray] (.bool (Hz.has h b)) (by with_unfolding_all rfl) _ _ (by with_unfolding_all rfl) (by with_unfolding_all rfl) (fun _ => by kernel_rfl) (fun w' h => HC1.out w' h) ?_; simp only [Act.put, List.setIfInBounds_toArray, List.set_cons_zero, List.set_cons_succ])
    | (with_reducible refine wpQuiet_call 12 [hzV h] (.int .i64 (Hz.count h : Nat)) (by with_unfolding_all rfl) _ _ (by with_unfolding_all rfl) (by with_unfolding_all rfl) (fun _ => by kernel_rfl) (fun w' h => HC2'.out w' h) ?_; simp only [Act.put, List.setIfInBounds_toArray, List.set_cons_zero, List.set_cons_succ])
    | (with_reducible refine wpQuiet_call 12 [hzV g] (.int .i64 (Hz.count g : Nat)) (by with_unfolding_all rfl) _ _ (by with_unfolding_all rfl) (by with_unfolding_all rfl) (fun _ => by kernel_rfl) (fun w' h => HC3.out w' h) ?_; simp only [Act.put, List.setIfInBounds_toArray, List.set_cons_zero, List.set_cons_succ])
    | (with_reducible refine wpQuiet_call 12 [hzV Hz.zero] (.int .i64 0) (by with_unfolding_all rfl) _ _ (by with_unfolding_all rfl) (by with_unfolding_all rfl) (fun _ => by kernel_rfl) (fun w' h => HC5.out w' h) ?_; simp only [Act.put, List.setIfInBounds_toArray, List.set_cons_zero, List.set_cons_succ])
    | (with_reducible refine wpQuiet_call 11 [hzV Hz.zero, .agg (u8s a).toArray] (.bool false) (by with_unfolding_all rfl) _ _ (by with_unfolding_all rfl) (by with_unfolding_all rfl) (fun _ => by kernel_rfl) (fun w' h => HC6.out w' h) ?_; simp only [Act.put, List.setIfInBounds_toArray, List.set_cons_zero, List.set_cons_succ])
    | (with_reducible refine wpQuiet_bin (by with_unfolding_all rfl) .eql 26 _ _ _ (by with_unfolding_all rfl) (hzV g) (hzV h) (.bool (Hz.has h b)) (by with_unfolding_all rfl) (by with_unfolding_all rfl) (fun w => run_eqGuard_hz w _ _ _ _ _) (fun w => HE1.out w) ?_; simp only [Act.put, List.setIfInBounds_toArray, List.set_cons_zero, List.set_cons_succ])
    | (with_reducible refine wpQuiet_bin (by with_unfolding_all rfl) .eql 4 _ _ _ (by with_unfolding_all rfl) (.bool (Hz.has h b)) (.bool (Hz.has h b)) (.bool true) (by with_unfolding_all rfl) (by with_unfolding_all rfl) (fun w => rfl) (fun w => HE2.out w) ?_; simp only [Act.put, List.setIfInBounds_toArray, List.set_cons_zero, List.set_cons_succ])
    | (with_reducible refine wpQuiet_bin (by with_unfolding_all rfl) .geq 3 _ _ _ (by with_unfolding_all rfl) (.int .i64 (Hz.count h : Nat)) (.int .i64 1) (.bool true) (by with_unfolding_all rfl) (by with_unfolding_all rfl) (fun w => rfl) (fun w => HE3.out w) ?_; simp only [Act.put, List.setIfInBounds_toArray, List.set_cons_zero, List.set_cons_succ])
    | (with_reducible refine wpQuiet_bin (by with_unfolding_all rfl) .leq 3 _ _ _ (by with_unfolding_all rfl) (.int .i64 (Hz.count h : Nat)) (.int .i64 4) (.bool true) (by with_unfolding_all rfl) (by with_unfolding_all rfl) (fun w => rfl) (fun w => HE4.out w) ?_; simp only [Act.put, List.setIfInBounds_toArray, List.set_cons_zero, List.set_cons_succ])
    | (with_reducible refine wpQuiet_bin (by with_unfolding_all rfl) .leq 3 _ _ _ (by with_unfolding_all rfl) (.int .i64 (Hz.count g : Nat)) (.int .i64 8) (.bool true) (by with_unfolding_all rfl) (by with_unfolding_all rfl) (fun w => rfl) (fun w => HE5.out w) ?_; simp only [Act.put, List.setIfInBounds_toArray, List.set_cons_zero, List.set_cons_succ])
    | (with_reducible refine wpQuiet_val (hzV Hz.zero) (by with_unfolding_all rfl) (fun w' _ => exec_build 26 #[] _ (by with_unfolding_all rfl) built_zero w') ?_; simp only [Act.put, List.setIfInBounds_toArray, List.set_cons_zero, List.set_cons_succ])
    | (go_big_quiet_step (exact fun _ => rfl)))
  with_reducible refine wpQuiet_nil ?_
  intro w6 h6
  have HB6 := Lib.hid (HBW5.out.trans (Below.mono h6 HBW5.out.size))
  clear h6
  go_wp2_with fail
  go_ret
  exact ⟨rfl, HB6.out⟩
end Go.Proofs.Ytcpnlojcmlldpaa
