/- The reference of layer 14: Has. -/
import Derived.Test.YtcpnlojcmlldpaaRefHB
namespace Go.Proofs.Ytcpnlojcmlldpaa
open Go.RowKit Go.Maps Go.Sort

set_option maxRecDepth 100000 in
set_option maxHeartbeats 1000000 in
theorem refhas_any (h k : List UInt8) (hh : h.length = 64) (hk : k.length = 32) (w : World) :
    Calls Try.prog 25 #[.agg (u8s h).toArray, .agg (u8s k).toArray] w fun e w' => e = .returned (.bool (Hz.has h k)) ∧ Below w.heap.size w w' := by
  have hih : (Try.prog.info? 26).map (·.size) = some (u8s h).toArray.size := by
    rw [List.size_toArray, u8s_len, hh]
    kernel_rfl
  have hik : (Try.prog.info? 23).map (·.size) = some (u8s k).toArray.size := by
    rw [List.size_toArray, u8s_len, hk]
    kernel_rfl
  have hA0 : At ((w.alloc (.cells (u8s h).toArray 26)).alloc (.cells (u8s k).toArray 23)) w.heap.size 26 (u8s h) := (At.newA w _ rfl).alloc _
  have hB0 : At ((w.alloc (.cells (u8s h).toArray 26)).alloc (.cells (u8s k).toArray 23)) (w.heap.size + 1) 23 (u8s k) := at_new_at _ _ (by simp) rfl
  have hb0 : Below w.heap.size w ((w.alloc (.cells (u8s h).toArray 26)).alloc (.cells (u8s k).toArray 23)) := ((Below.refl _ _).alloc (Nat.le_refl _) _).alloc (by simp) _
  have HUH := Lib.hid Try.underlying26
  have HUD := Lib.hid Try.underlying23
  have HIH := Lib.hid (HaveHzInfo hh)
  have HIK := Lib.hid (show (Try.prog.info? 23).map (·.size) = some (u8s k).length by rw [u8s_len, hk]; kernel_rfl)
  have HA0 := Lib.hid hA0
  have HB0 := Lib.hid hB0
  have HBB := Lib.hid hb0
  have HHL := Lib.hid hh
  have HKL := Lib.hid hk
  have HF := Lib.hid (Hz.has_four hh k)
  clear hA0 hB0 hb0 hh hk
  go_enter Try.func25, Try.ntmps25
  go_wp2_with fail
  obtain ⟨q1, hq1⟩ : ∃ q, q = w.heap.size := ⟨_, rfl⟩
  obtain ⟨q2, hq2⟩ : ∃ q, q = w.heap.size + 1 := ⟨_, rfl⟩
  rw [← hq2, ← hq1]
  have hA1 := HA0.out
  have hB1 := HB0.out
  rw [← hq1] at hA1
  rw [← hq2] at hB1
  clear hq1 hq2 HA0 HB0 hih hik
  generalize (w.alloc (.cells (u8s h).toArray 26)).alloc (.cells (u8s k).toArray 23) = w1 at hA1 hB1 HBB ⊢
  have HRH := Lib.hid (fun w' (hb : Behind w1 w') => behind_range hA1 hb)
  have HRK := Lib.hid (fun w' (hb : Behind w1 w') => behind_range hB1 hb)
  have HM0 := Lib.hid (show ∀ w', Behind w1 w' → Calls Try.prog 33 #[.agg (u8s k).toArray, .int .i64 0] w' fun e w'' => e = .returned (.int .i64 (Hz.mark k 0 : Nat)) ∧ Behind w1 w'' from fun w' hb => behind_call hb (refmark_any k HKL.out 0 (by omega) w'))
  have HM1 := Lib.hid (show ∀ w', Behind w1 w' → Calls Try.prog 33 #[.agg (u8s k).toArray, .int .i64 1] w' fun e w'' => e = .returned (.int .i64 (Hz.mark k 1 : Nat)) ∧ Behind w1 w'' from fun w' hb => behind_call hb (refmark_any k HKL.out 1 (by omega) w'))
  have HM2 := Lib.hid (show ∀ w', Behind w1 w' → Calls Try.prog 33 #[.agg (u8s k).toArray, .int .i64 2] w' fun e w'' => e = .returned (.int .i64 (Hz.mark k 2 : Nat)) ∧ Behind w1 w'' from fun w' hb => behind_call hb (refmark_any k HKL.out 2 (by omega) w'))
  have HM3 := Lib.hid (show ∀ w', Behind w1 w' → Calls Try.prog 33 #[.agg (u8s k).toArray, .int .i64 3] w' fun e w'' => e = .returned (.int .i64 (Hz.mark k 3 : Nat)) ∧ Behind w1 w'' from fun w' hb => behind_call hb (refmark_any k HKL.out 3 (by omega) w'))
  have HT := Lib.hid (show ∀ (i : Nat) (t : Bool), Hz.bit h (Hz.mark k i) = t → ∀ w', Behind w1 w' → Calls Try.prog 32 #[.agg (u8s h).toArray, .int .i64 (Hz.mark k i : Nat)] w' fun e w'' => e = .returned (.bool t) ∧ Behind w1 w'' from fun i t ht w' hb => by
    have := behind_call hb (refbit_any h HHL.out (Hz.mark k i) (Hz.mark_lt k i) w')
    rwa [ht] at this)
  clear hA1 hB1
  cases hbit0 : Hz.bit h (Hz.mark k 0)
  · have HT0 := Lib.hid (fun w' hb => HT.out 0 false hbit0 w' hb)
    have HE := Lib.hid (show Hz.has h k = false by rw [HF.out, hbit0]; simp)
    clear hbit0
    refine wp_region_class (Behind w1) (by kernel_rfl) (by kernel_rfl) (Below.refl _ _).drew ?_
    iterate 23 (first
      | go_big_quiet_skip
      | (with_reducible refine wpQuiet_loadAll (by with_unfolding_all rfl) 26 _ (by with_unfolding_all rfl) q1 (0) (by with_unfolding_all rfl) (u8s h) _ (fun w h => HRH.out w h) HUH.out (by with_unfolding_all rfl) HIH.out ?_; simp only [Act.put, List.setIfInBounds_toArray, List.set_cons_zero, List.set_cons_succ])
      | (with_reducible refine wpQuiet_loadAll (by with_unfolding_all rfl) 23 _ (by with_unfolding_all rfl) q2 (0) (by with_unfolding_all rfl) (u8s k) _ (fun w h => HRK.out w h) HUD.out (by with_unfolding_all rfl) HIK.out ?_; simp only [Act.put, List.setIfInBounds_toArray, List.set_cons_zero, List.set_cons_succ])
      | (with_reducible refine wpQuiet_call 33 [.agg (u8s k).toArray, .int .i64 0] (.int .i64 (Hz.mark k 0 : Nat)) (by with_unfolding_all rfl) _ _ (by with_unfolding_all rfl) (by with_unfolding_all rfl) (fun _ => by kernel_rfl) (fun w' h => HM0.out w' h) ?_; simp only [Act.put, List.setIfInBounds_toArray, List.set_cons_zero, List.set_cons_succ])
      | (with_reducible refine wpQuiet_call 33 [.agg (u8s k).toArray, .int .i64 1] (.int .i64 (Hz.mark k 1 : Nat)) (by with_unfolding_all rfl) _ _ (by with_unfolding_all rfl) (by with_unfolding_all rfl) (fun _ => by kernel_rfl) (fun w' h => HM1.out w' h) ?_; simp only [Act.put, List.setIfInBounds_toArray, List.set_cons_zero, List.set_cons_succ])
      | (with_reducible refine wpQuiet_call 33 [.agg (u8s k).toArray, .int .i64 2] (.int .i64 (Hz.mark k 2 : Nat)) (by with_unfolding_all rfl) _ _ (by with_unfolding_all rfl) (by with_unfolding_all rfl) (fun _ => by kernel_rfl) (fun w' h => HM2.out w' h) ?_; simp only [Act.put, List.setIfInBounds_toArray, List.set_cons_zero, List.set_cons_succ])
      | (with_reducible refine wpQuiet_call 33 [.agg (u8s k).toArray, .int .i64 3] (.int .i64 (Hz.mark k 3 : Nat)) (by with_unfolding_all rfl) _ _ (by with_unfolding_all rfl) (by with_unfolding_all rfl) (fun _ => by kernel_rfl) (fun w' h => HM3.out w' h) ?_; simp only [Act.put, List.setIfInBounds_toArray, List.set_cons_zero, List.set_cons_succ])
      | (with_reducible refine wpQuiet_call 32 [.agg (u8s h).toArray, .int .i64 (Hz.mark k 0 : Nat)] (.bool false) (by with_unfolding_all rfl) _ _ (by with_unfolding_all rfl) (by with_unfolding_all rfl) (fun _ => by kernel_rfl) (fun w' h => HT0.out w' h) ?_; simp only [Act.put, List.setIfInBounds_toArray, List.set_cons_zero, List.set_cons_succ])
      | (go_big_quiet_step (exact fun _ => rfl)))
    with_reducible refine wpQuiet_nil ?_
    intro w2 h2
    have HB2 := Lib.hid (HBB.out.trans (Below.mono h2 HBB.out.size))
    clear h2
    go_wp2_with fail
    go_ret
    exact ⟨by rw [HE.out]; rfl, HB2.out⟩
  · cases hbit1 : Hz.bit h (Hz.mark k 1)
    · have HT0 := Lib.hid (fun w' hb => HT.out 0 true hbit0 w' hb)
      have HT1 := Lib.hid (fun w' hb => HT.out 1 false hbit1 w' hb)
      have HE := Lib.hid (show Hz.has h k = false by rw [HF.out, hbit0, hbit1]; simp)
      clear hbit0 hbit1
      refine wp_region_class (Behind w1) (by kernel_rfl) (by kernel_rfl) (Below.refl _ _).drew ?_
      iterate 23 (first
        | go_big_quiet_skip
        | (with_reducible refine wpQuiet_loadAll (by with_unfolding_all rfl) 26 _ (by with_unfolding_all rfl) q1 (0) (by with_unfolding_all rfl) (u8s h) _ (fun w h => HRH.out w h) HUH.out (by with_unfolding_all rfl) HIH.out ?_; simp only [Act.put, List.setIfInBounds_toArray, List.set_cons_zero, List.set_cons_succ])
        | (with_reducible refine wpQuiet_loadAll (by with_unfolding_all rfl) 23 _ (by with_unfolding_all rfl) q2 (0) (by with_unfolding_all rfl) (u8s k) _ (fun w h => HRK.out w h) HUD.out (by with_unfolding_all rfl) HIK.out ?_; simp only [Act.put, List.setIfInBounds_toArray, List.set_cons_zero, List.set_cons_succ])
        | (with_reducible refine wpQuiet_call 33 [.agg (u8s k).toArray, .int .i64 0] (.int .i64 (Hz.mark k 0 : Nat)) (by with_unfolding_all rfl) _ _ (by with_unfolding_all rfl) (by with_unfolding_all rfl) (fun _ => by kernel_rfl) (fun w' h => HM0.out w' h) ?_; simp only [Act.put, List.setIfInBounds_toArray, List.set_cons_zero, List.set_cons_succ])
        | (with_reducible refine wpQuiet_call 33 [.agg (u8s k).toArray, .int .i64 1] (.int .i64 (Hz.mark k 1 : Nat)) (by with_unfolding_all rfl) _ _ (by with_unfolding_all rfl) (by with_unfolding_all rfl) (fun _ => by kernel_rfl) (fun w' h => HM1.out w' h) ?_; simp only [Act.put, List.setIfInBounds_toArray, List.set_cons_zero, List.set_cons_succ])
        | (with_reducible refine wpQuiet_call 33 [.agg (u8s k).toArray, .int .i64 2] (.int .i64 (Hz.mark k 2 : Nat)) (by with_unfolding_all rfl) _ _ (by with_unfolding_all rfl) (by with_unfolding_all rfl) (fun _ => by kernel_rfl) (fun w' h => HM2.out w' h) ?_; simp only [Act.put, List.setIfInBounds_toArray, List.set_cons_zero, List.set_cons_succ])
        | (with_reducible refine wpQuiet_call 33 [.agg (u8s k).toArray, .int .i64 3] (.int .i64 (Hz.mark k 3 : Nat)) (by with_unfolding_all rfl) _ _ (by with_unfolding_all rfl) (by with_unfolding_all rfl) (fun _ => by kernel_rfl) (fun w' h => HM3.out w' h) ?_; simp only [Act.put, List.setIfInBounds_toArray, List.set_cons_zero, List.set_cons_succ])
        | (with_reducible refine wpQuiet_call 32 [.agg (u8s h).toArray, .int .i64 (Hz.mark k 0 : Nat)] (.bool true) (by with_unfolding_all rfl) _ _ (by with_unfolding_all rfl) (by with_unfolding_all rfl) (fun _ => by kernel_rfl) (fun w' h => HT0.out w' h) ?_; simp only [Act.put, List.setIfInBounds_toArray, List.set_cons_zero, List.set_cons_succ])
        | (with_reducible refine wpQuiet_call 32 [.agg (u8s h).toArray, .int .i64 (Hz.mark k 1 : Nat)] (.bool false) (by with_unfolding_all rfl) _ _ (by with_unfolding_all rfl) (by with_unfolding_all rfl) (fun _ => by kernel_rfl) (fun w' h => HT1.out w' h) ?_; simp only [Act.put, List.setIfInBounds_toArray, List.set_cons_zero, List.set_cons_succ])
        | (go_big_quiet_step (exact fun _ => rfl)))
      with_reducible refine wpQuiet_nil ?_
      intro w2 h2
      have HB2 := Lib.hid (HBB.out.trans (Below.mono h2 HBB.out.size))
      clear h2
      go_wp2_with fail
      go_ret
      exact ⟨by rw [HE.out]; rfl, HB2.out⟩
    · cases hbit2 : Hz.bit h (Hz.mark k 2)
      · have HT0 := Lib.hid (fun w' hb => HT.out 0 true hbit0 w' hb)
        have HT1 := Lib.hid (fun w' hb => HT.out 1 true hbit1 w' hb)
        have HT2 := Lib.hid (fun w' hb => HT.out 2 false hbit2 w' hb)
        have HE := Lib.hid (show Hz.has h k = false by rw [HF.out, hbit0, hbit1, hbit2]; simp)
        clear hbit0 hbit1 hbit2
        refine wp_region_class (Behind w1) (by kernel_rfl) (by kernel_rfl) (Below.refl _ _).drew ?_
        iterate 23 (first
          | go_big_quiet_skip
          | (with_reducible refine wpQuiet_loadAll (by with_unfolding_all rfl) 26 _ (by with_unfolding_all rfl) q1 (0) (by with_unfolding_all rfl) (u8s h) _ (fun w h => HRH.out w h) HUH.out (by with_unfolding_all rfl) HIH.out ?_; simp only [Act.put, List.setIfInBounds_toArray, List.set_cons_zero, List.set_cons_succ])
          | (with_reducible refine wpQuiet_loadAll (by with_unfolding_all rfl) 23 _ (by with_unfolding_all rfl) q2 (0) (by with_unfolding_all rfl) (u8s k) _ (fun w h => HRK.out w h) HUD.out (by with_unfolding_all rfl) HIK.out ?_; simp only [Act.put, List.setIfInBounds_toArray, List.set_cons_zero, List.set_cons_succ])
          | (with_reducible refine wpQuiet_call 33 [.agg (u8s k).toArray, .int .i64 0] (.int .i64 (Hz.mark k 0 : Nat)) (by with_unfolding_all rfl) _ _ (by with_unfolding_all rfl) (by with_unfolding_all rfl) (fun _ => by kernel_rfl) (fun w' h => HM0.out w' h) ?_; simp only [Act.put, List.setIfInBounds_toArray, List.set_cons_zero, List.set_cons_succ])
          | (with_reducible refine wpQuiet_call 33 [.agg (u8s k).toArray, .int .i64 1] (.int .i64 (Hz.mark k 1 : Nat)) (by with_unfolding_all rfl) _ _ (by with_unfolding_all rfl) (by with_unfolding_all rfl) (fun _ => by kernel_rfl) (fun w' h => HM1.out w' h) ?_; simp only [Act.put, List.setIfInBounds_toArray, List.set_cons_zero, List.set_cons_succ])
          | (with_reducible refine wpQuiet_call 33 [.agg (u8s k).toArray, .int .i64 2] (.int .i64 (Hz.mark k 2 : Nat)) (by with_unfolding_all rfl) _ _ (by with_unfolding_all rfl) (by with_unfolding_all rfl) (fun _ => by kernel_rfl) (fun w' h => HM2.out w' h) ?_; simp only [Act.put, List.setIfInBounds_toArray, List.set_cons_zero, List.set_cons_succ])
          | (with_reducible refine wpQuiet_call 33 [.agg (u8s k).toArray, .int .i64 3] (.int .i64 (Hz.mark k 3 : Nat)) (by with_unfolding_all rfl) _ _ (by with_unfolding_all rfl) (by with_unfolding_all rfl) (fun _ => by kernel_rfl) (fun w' h => HM3.out w' h) ?_; simp only [Act.put, List.setIfInBounds_toArray, List.set_cons_zero, List.set_cons_succ])
          | (with_reducible refine wpQuiet_call 32 [.agg (u8s h).toArray, .int .i64 (Hz.mark k 0 : Nat)] (.bool true) (by with_unfolding_all rfl) _ _ (by with_unfolding_all rfl) (by with_unfolding_all rfl) (fun _ => by kernel_rfl) (fun w' h => HT0.out w' h) ?_; simp only [Act.put, List.setIfInBounds_toArray, List.set_cons_zero, List.set_cons_succ])
          | (with_reducible refine wpQuiet_call 32 [.agg (u8s h).toArray, .int .i64 (Hz.mark k 1 : Nat)] (.bool true) (by with_unfolding_all rfl) _ _ (by with_unfolding_all rfl) (by with_unfolding_all rfl) (fun _ => by kernel_rfl) (fun w' h => HT1.out w' h) ?_; simp only [Act.put, List.setIfInBounds_toArray, List.set_cons_zero, List.set_cons_succ])
          | (with_reducible refine wpQuiet_call 32 [.agg (u8s h).toArray, .int .i64 (Hz.mark k 2 : Nat)] (.bool false) (by with_unfolding_all rfl) _ _ (by with_unfolding_all rfl) (by with_unfolding_all rfl) (fun _ => by kernel_rfl) (fun w' h => HT2.out w' h) ?_; simp only [Act.put, List.setIfInBounds_toArray, List.set_cons_zero, List.set_cons_succ])
          | (go_big_quiet_step (exact fun _ => rfl)))
        with_reducible refine wpQuiet_nil ?_
        intro w2 h2
        have HB2 := Lib.hid (HBB.out.trans (Below.mono h2 HBB.out.size))
        clear h2
        go_wp2_with fail
        go_ret
        exact ⟨by rw [HE.out]; rfl, HB2.out⟩
      · cases hbit3 : Hz.bit h (Hz.mark k 3)
        · have HT0 := Lib.hid (fun w' hb => HT.out 0 true hbit0 w' hb)
          have HT1 := Lib.hid (fun w' hb => HT.out 1 true hbit1 w' hb)
          have HT2 := Lib.hid (fun w' hb => HT.out 2 true hbit2 w' hb)
          have HT3 := Lib.hid (fun w' hb => HT.out 3 false hbit3 w' hb)
          have HE := Lib.hid (show Hz.has h k = false by rw [HF.out, hbit0, hbit1, hbit2, hbit3]; simp)
          clear hbit0 hbit1 hbit2 hbit3
          refine wp_region_class (Behind w1) (by kernel_rfl) (by kernel_rfl) (Below.refl _ _).drew ?_
          iterate 23 (first
            | go_big_quiet_skip
            | (with_reducible refine wpQuiet_loadAll (by with_unfolding_all rfl) 26 _ (by with_unfolding_all rfl) q1 (0) (by with_unfolding_all rfl) (u8s h) _ (fun w h => HRH.out w h) HUH.out (by with_unfolding_all rfl) HIH.out ?_; simp only [Act.put, List.setIfInBounds_toArray, List.set_cons_zero, List.set_cons_succ])
            | (with_reducible refine wpQuiet_loadAll (by with_unfolding_all rfl) 23 _ (by with_unfolding_all rfl) q2 (0) (by with_unfolding_all rfl) (u8s k) _ (fun w h => HRK.out w h) HUD.out (by with_unfolding_all rfl) HIK.out ?_; simp only [Act.put, List.setIfInBounds_toArray, List.set_cons_zero, List.set_cons_succ])
            | (with_reducible refine wpQuiet_call 33 [.agg (u8s k).toArray, .int .i64 0] (.int .i64 (Hz.mark k 0 : Nat)) (by with_unfolding_all rfl) _ _ (by with_unfolding_all rfl) (by with_unfolding_all rfl) (fun _ => by kernel_rfl) (fun w' h => HM0.out w' h) ?_; simp only [Act.put, List.setIfInBounds_toArray, List.set_cons_zero, List.set_cons_succ])
            | (with_reducible refine wpQuiet_call 33 [.agg (u8s k).toArray, .int .i64 1] (.int .i64 (Hz.mark k 1 : Nat)) (by with_unfolding_all rfl) _ _ (by with_unfolding_all rfl) (by with_unfolding_all rfl) (fun _ => by kernel_rfl) (fun w' h => HM1.out w' h) ?_; simp only [Act.put, List.setIfInBounds_toArray, List.set_cons_zero, List.set_cons_succ])
            | (with_reducible refine wpQuiet_call 33 [.agg (u8s k).toArray, .int .i64 2] (.int .i64 (Hz.mark k 2 : Nat)) (by with_unfolding_all rfl) _ _ (by with_unfolding_all rfl) (by with_unfolding_all rfl) (fun _ => by kernel_rfl) (fun w' h => HM2.out w' h) ?_; simp only [Act.put, List.setIfInBounds_toArray, List.set_cons_zero, List.set_cons_succ])
            | (with_reducible refine wpQuiet_call 33 [.agg (u8s k).toArray, .int .i64 3] (.int .i64 (Hz.mark k 3 : Nat)) (by with_unfolding_all rfl) _ _ (by with_unfolding_all rfl) (by with_unfolding_all rfl) (fun _ => by kernel_rfl) (fun w' h => HM3.out w' h) ?_; simp only [Act.put, List.setIfInBounds_toArray, List.set_cons_zero, List.set_cons_succ])
            | (with_reducible refine wpQuiet_call 32 [.agg (u8s h).toArray, .int .i64 (Hz.mark k 0 : Nat)] (.bool true) (by with_unfolding_all rfl) _ _ (by with_unfolding_all rfl) (by with_unfolding_all rfl) (fun _ => by kernel_rfl) (fun w' h => HT0.out w' h) ?_; simp only [Act.put, List.setIfInBounds_toArray, List.set_cons_zero, List.set_cons_succ])
            | (with_reducible refine wpQuiet_call 32 [.agg (u8s h).toArray, .int .i64 (Hz.mark k 1 : Nat)] (.bool true) (by with_unfolding_all rfl) _ _ (by with_unfolding_all rfl) (by with_unfolding_all rfl) (fun _ => by kernel_rfl) (fun w' h => HT1.out w' h) ?_; simp only [Act.put, List.setIfInBounds_toArray, List.set_cons_zero, List.set_cons_succ])
            | (with_reducible refine wpQuiet_call 32 [.agg (u8s h).toArray, .int .i64 (Hz.mark k 2 : Nat)] (.bool true) (by with_unfolding_all rfl) _ _ (by with_unfolding_all rfl) (by with_unfolding_all rfl) (fun _ => by kernel_rfl) (fun w' h => HT2.out w' h) ?_; simp only [Act.put, List.setIfInBounds_toArray, List.set_cons_zero, List.set_cons_succ])
            | (with_reducible refine wpQuiet_call 32 [.agg (u8s h).toArray, .int .i64 (Hz.mark k 3 : Nat)] (.bool false) (by with_unfolding_all rfl) _ _ (by with_unfolding_all rfl) (by with_unfolding_all rfl) (fun _ => by kernel_rfl) (fun w' h => HT3.out w' h) ?_; simp only [Act.put, List.setIfInBounds_toArray, List.set_cons_zero, List.set_cons_succ])
            | (go_big_quiet_step (exact fun _ => rfl)))
          with_reducible refine wpQuiet_nil ?_
          intro w2 h2
          have HB2 := Lib.hid (HBB.out.trans (Below.mono h2 HBB.out.size))
          clear h2
          go_wp2_with fail
          go_ret
          exact ⟨by rw [HE.out]; rfl, HB2.out⟩
        · have HT0 := Lib.hid (fun w' hb => HT.out 0 true hbit0 w' hb)
          have HT1 := Lib.hid (fun w' hb => HT.out 1 true hbit1 w' hb)
          have HT2 := Lib.hid (fun w' hb => HT.out 2 true hbit2 w' hb)
          have HT3 := Lib.hid (fun w' hb => HT.out 3 true hbit3 w' hb)
          have HE := Lib.hid (show Hz.has h k = true by rw [HF.out, hbit0, hbit1, hbit2, hbit3]; simp)
          clear hbit0 hbit1 hbit2 hbit3
          refine wp_region_class (Behind w1) (by kernel_rfl) (by kernel_rfl) (Below.refl _ _).drew ?_
          iterate 23 (first
            | go_big_quiet_skip
            | (with_reducible refine wpQuiet_loadAll (by with_unfolding_all rfl) 26 _ (by with_unfolding_all rfl) q1 (0) (by with_unfolding_all rfl) (u8s h) _ (fun w h => HRH.out w h) HUH.out (by with_unfolding_all rfl) HIH.out ?_; simp only [Act.put, List.setIfInBounds_toArray, List.set_cons_zero, List.set_cons_succ])
            | (with_reducible refine wpQuiet_loadAll (by with_unfolding_all rfl) 23 _ (by with_unfolding_all rfl) q2 (0) (by with_unfolding_all rfl) (u8s k) _ (fun w h => HRK.out w h) HUD.out (by with_unfolding_all rfl) HIK.out ?_; simp only [Act.put, List.setIfInBounds_toArray, List.set_cons_zero, List.set_cons_succ])
            | (with_reducible refine wpQuiet_call 33 [.agg (u8s k).toArray, .int .i64 0] (.int .i64 (Hz.mark k 0 : Nat)) (by with_unfolding_all rfl) _ _ (by with_unfolding_all rfl) (by with_unfolding_all rfl) (fun _ => by kernel_rfl) (fun w' h => HM0.out w' h) ?_; simp only [Act.put, List.setIfInBounds_toArray, List.set_cons_zero, List.set_cons_succ])
            | (with_reducible refine wpQuiet_call 33 [.agg (u8s k).toArray, .int .i64 1] (.int .i64 (Hz.mark k 1 : Nat)) (by with_unfolding_all rfl) _ _ (by with_unfolding_all rfl) (by with_unfolding_all rfl) (fun _ => by kernel_rfl) (fun w' h => HM1.out w' h) ?_; simp only [Act.put, List.setIfInBounds_toArray, List.set_cons_zero, List.set_cons_succ])
            | (with_reducible refine wpQuiet_call 33 [.agg (u8s k).toArray, .int .i64 2] (.int .i64 (Hz.mark k 2 : Nat)) (by with_unfolding_all rfl) _ _ (by with_unfolding_all rfl) (by with_unfolding_all rfl) (fun _ => by kernel_rfl) (fun w' h => HM2.out w' h) ?_; simp only [Act.put, List.setIfInBounds_toArray, List.set_cons_zero, List.set_cons_succ])
            | (with_reducible refine wpQuiet_call 33 [.agg (u8s k).toArray, .int .i64 3] (.int .i64 (Hz.mark k 3 : Nat)) (by with_unfolding_all rfl) _ _ (by with_unfolding_all rfl) (by with_unfolding_all rfl) (fun _ => by kernel_rfl) (fun w' h => HM3.out w' h) ?_; simp only [Act.put, List.setIfInBounds_toArray, List.set_cons_zero, List.set_cons_succ])
            | (with_reducible refine wpQuiet_call 32 [.agg (u8s h).toArray, .int .i64 (Hz.mark k 0 : Nat)] (.bool true) (by with_unfolding_all rfl) _ _ (by with_unfolding_all rfl) (by with_unfolding_all rfl) (fun _ => by kernel_rfl) (fun w' h => HT0.out w' h) ?_; simp only [Act.put, List.setIfInBounds_toArray, List.set_cons_zero, List.set_cons_succ])
            | (with_reducible refine wpQuiet_call 32 [.agg (u8s h).toArray, .int .i64 (Hz.mark k 1 : Nat)] (.bool true) (by with_unfolding_all rfl) _ _ (by with_unfolding_all rfl) (by with_unfolding_all rfl) (fun _ => by kernel_rfl) (fun w' h => HT1.out w' h) ?_; simp only [Act.put, List.setIfInBounds_toArray, List.set_cons_zero, List.set_cons_succ])
            | (with_reducible refine wpQuiet_call 32 [.agg (u8s h).toArray, .int .i64 (Hz.mark k 2 : Nat)] (.bool true) (by with_unfolding_all rfl) _ _ (by with_unfolding_all rfl) (by with_unfolding_all rfl) (fun _ => by kernel_rfl) (fun w' h => HT2.out w' h) ?_; simp only [Act.put, List.setIfInBounds_toArray, List.set_cons_zero, List.set_cons_succ])
            | (with_reducible refine wpQuiet_call 32 [.agg (u8s h).toArray, .int .i64 (Hz.mark k 3 : Nat)] (.bool true) (by with_unfolding_all rfl) _ _ (by with_unfolding_all rfl) (by with_unfolding_all rfl) (fun _ => by kernel_rfl) (fun w' h => HT3.out w' h) ?_; simp only [Act.put, List.setIfInBounds_toArray, List.set_cons_zero, List.set_cons_succ])
            | (go_big_quiet_step (exact fun _ => rfl)))
          with_reducible refine wpQuiet_nil ?_
          intro w2 h2
          have HB2 := Lib.hid (HBB.out.trans (Below.mono h2 HBB.out.size))
          clear h2
          go_wp2_with fail
          go_ret
          exact ⟨by rw [HE.out]; rfl, HB2.out⟩
end Go.Proofs.Ytcpnlojcmlldpaa
