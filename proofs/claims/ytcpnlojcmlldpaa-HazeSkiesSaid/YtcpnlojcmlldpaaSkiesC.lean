/- The reference's sky: May. -/
import Derived.Test.YtcpnlojcmlldpaaSkiesB
namespace Go.Proofs.Ytcpnlojcmlldpaa
open Go.RowKit Go.Maps Go.Sort

/-- what the reference tells of the nodes below n -/
def refT (f : Clouds) (key : List UInt8) (now : Int) (n : Nat) : List Int := ((List.range n).map fun i : Nat => (i : Int)).filter (toldB f key now)
theorem refT_succ (f : Clouds) (key : List UInt8) (now : Int) (n : Nat) : refT f key now (n + 1) = refT f key now n ++ if toldB f key now n = true then [(n : Int)] else [] := by
  unfold refT
  rw [List.range_succ, List.map_append, List.filter_append, List.map_cons, List.map_nil, List.filter_cons]
  rfl
theorem refT_len (f : Clouds) (key : List UInt8) (now : Int) (n : Nat) : (refT f key now n).length ≤ n := by
  have := List.length_filter_le (toldB f key now) ((List.range n).map fun i : Nat => (i : Int))
  rw [List.length_map, List.length_range] at this
  exact this
theorem refT_one {f : Clouds} (h0 : f 0 = none) (key : List UInt8) (now : Int) : refT f key now 1 = [] := by
  have h1 : toldB f key now 0 = false := by unfold toldB; rw [h0]
  unfold refT
  simp [h1]
theorem run_leq0 (a b : Int) (h : ¬ a ≤ b) (w : World) : (binOp .leq 3 (.int .i64 a) (.int .i64 b)).run Try.prog w = .ok (.bool false) w := by
  go_simp
theorem run_add40 (a : Int) (h1 : 0 ≤ a) (h2 : a ≤ 1099511627776) (w : World) : (binOp .add 3 (.int .i64 a) (.int .i64 40)).run Try.prog w = .ok (.int .i64 (a + 40)) w := by
  have h : IntKind.i64.wrap (a + 40) = a + 40 := by rw [IntKind.wrap_i64]; omega
  go_simp
theorem refT_all {f : Clouds} (h0 : f 0 = none) (key : List UInt8) (now : Int) : refT f key now 7 = mayS f key now := by
  have e : (List.range 7).map (fun i : Nat => (i : Int)) = 0 :: Sk.nodes := by decide
  unfold refT
  rw [e, mayS_told]
  unfold keysOf
  have h1 : toldB f key now 0 = false := by unfold toldB; rw [h0]
  rw [List.filter_cons, h1, if_neg (by simp), List.filter_filter]
  congr 1
  funext k
  unfold toldB
  cases f k <;> simp
set_option maxRecDepth 100000 in
set_option maxHeartbeats 1000000 in
theorem refmay_any {w : World} {p : Nat} {f : Clouds} (hs : RSky w p f) (hf : ∀ k, ¬ (1 ≤ k ∧ k ≤ 6) → f k = none) (ht : ∀ k c, f k = some c → 0 ≤ c.t ∧ c.t ≤ 1099511627776) (key : List UInt8) (hk : key.length = 32) (now : Int) :
    Calls Try.prog 20 #[.pointer (some ⟨p, 0, none⟩), .agg (u8s key).toArray, .int .i64 now] w fun e w' => ∃ A c, e = .returned (.slice A (mayS f key now).length c) ∧ IntsIn w' A (mayS f key now) ∧ Below w.heap.size w w' := by
  have hik : (Try.prog.info? 23).map (·.size) = some (u8s key).toArray.size := by
    rw [List.size_toArray, u8s_len, hk]
    kernel_rfl
  have hb0 : Below w.heap.size w (w.alloc (.cells (u8s key).toArray 23)) := (Below.refl _ _).alloc (Nat.le_refl _) _
  have HA0 := Lib.hid (show At (w.alloc (.cells (u8s key).toArray 23)) w.heap.size 23 (u8s key) from At.newA w _ rfl)
  have HS0 := Lib.hid (hs.below hb0)
  have HB0 := Lib.hid hb0
  have HKL := Lib.hid hk
  have HF := Lib.hid hf
  have HTM := Lib.hid ht
  have HUH := Lib.hid Try.underlying26
  have HUD := Lib.hid Try.underlying23
  have HUI := Lib.hid Try.underlying3
  have HUB := Lib.hid Try.underlying4
  have HIK := Lib.hid (show (Try.prog.info? 23).map (·.size) = some (u8s key).length by rw [u8s_len, hk]; kernel_rfl)
  obtain ⟨i0, hi, hz0, hz1, hz2⟩ := info_parts info_int
  clear hs hf ht hk hb0
  go_enter Try.func20, Try.ntmps20
  go_wp2_with fail
  obtain ⟨q, hq⟩ : ∃ q, q = w.heap.size := ⟨_, rfl⟩
  have hqs : w.heap.size + 1 = (w.alloc (.cells (u8s key).toArray 23)).heap.size := by simp
  have hA := HA0.out
  rw [hqs, ← hq]
  rw [← hq] at hA
  clear HA0 hqs hik
  have hbw := HB0.out.size
  generalize w.alloc (.cells (u8s key).toArray 23) = w0 at hA HS0 HB0 hbw ⊢
  have HA := Lib.hid hA
  have HO0 := Lib.hid (Own.made (base := w0.heap.size) w0 3 1 [] 0 0 (Nat.le_refl _) (Nat.le_refl _) (by simp [maxLen]) rfl)
  have HBn := Lib.hid (show Below w0.heap.size w0 (w0.alloc (.cells #[] 3)) from (Below.refl _ _).alloc (Nat.le_refl _) _)
  obtain ⟨B, hB⟩ : ∃ B, B = w0.heap.size := ⟨_, rfl⟩
  have HBe := Lib.hid hB
  clear hA hB hq
  go_loopw [7, 8] (fun v i wr => ∃ n : Nat, 1 ≤ n ∧ n ≤ 7 ∧ i = .int .i64 n ∧ Own wr B 3 1 v (refT f key now n).length ((refT f key now n).map (.int .i64 ·)) ∧ Below B w0 wr) (fun _ i _ => 7 - (RowKit.intOf i).toNat)
  case atStart => exact ⟨1, by omega, by omega, rfl, by rw [refT_one (HF.out 0 (by omega)), HBe.out]; exact HO0.out, by rw [HBe.out]; exact HBn.out⟩
  case round =>
    obtain ⟨n, hn1, hn7, rfl, hO2, hb⟩ := hrel
    have hbr := hb
    rw [HBe.out] at hbr
    have HBr := Lib.hid hb
    have HO2 := Lib.hid hO2
    have hBl : B ≤ wr.heap.size := by rw [HBe.out]; exact hbr.size
    by_cases hlt : n < 7
    · obtain ⟨cs, hat, hc⟩ := (HS0.out.below hbr)
      have hk := HA.out.below hbr HA.out.lt
      have HRK := Lib.hid (fun w' (h : Behind wr w') => behind_range hk h)
      have i1 : (0 : Int) ≤ (n : Int) := by omega
      have i2 : (n : Int) < 7 := by omega
      obtain ⟨hc1, hc2⟩ := hc.2 n hlt
      cases hfn : f n with
      | none =>
        rw [hfn] at hc1
        have HS1 := Lib.hid (show ∀ w', Behind wr w' → w'.cell? ⟨p, 455 + n, none⟩ = some (.bool false) from fun w' h => (hat.below h hat.lt).cell' hc1)
        have HTD := Lib.hid (show toldB f key now n = false by unfold toldB; rw [hfn])
        have HE := Lib.hid (show refT f key now (n + 1) = refT f key now n by rw [refT_succ, HTD.out]; simp)
        clear hO2 hb hbr hat hc hk hc1 hc2 hfn
        go_wp2_with fail
        refine wp_region_class (Behind wr) (by kernel_rfl) (by kernel_rfl) (Below.refl _ _).drew ?_
        iterate 37 (first
          | go_big_quiet_skip
          | (with_reducible refine wpQuiet_loadB (.bool false) (by with_unfolding_all rfl) 4 _ (by with_unfolding_all rfl) HUB.out p (455 + n) (by with_unfolding_all rfl) (fun w h => HS1.out w h) ?_; simp only [Act.put, List.setIfInBounds_toArray, List.set_cons_zero, List.set_cons_succ])
          | (go_big_quiet_step (exact fun _ => rfl)))
        with_reducible refine wpQuiet_nil ?_
        intro w5 h5
        have HB5 := Lib.hid (HBr.out.trans (Below.mono h5 hBl))
        have HO5 := Lib.hid (HO2.out.below h5)
        clear h5
        go_wp2_with fail
        go_roundw
        case rel => exact ⟨n + 1, by omega, by omega, by go_num, by rw [HE.out]; exact HO5.out, HB5.out⟩
        case measure => simp [RowKit.intOf]; omega
      | some c =>
        rw [hfn] at hc1
        obtain ⟨hc64, hct, hch⟩ := hc2 c hfn
        obtain ⟨ht0, ht1⟩ := HTM.out n c hfn
        have HS1 := Lib.hid (show ∀ w', Behind wr w' → w'.cell? ⟨p, 455 + n, none⟩ = some (.bool true) from fun w' h => (hat.below h hat.lt).cell' hc1)
        have HS2 := Lib.hid (show ∀ w', Behind wr w' → w'.cell? ⟨p, 448 + n, none⟩ = some (.int .i64 c.t) from fun w' h => (hat.below h hat.lt).cell' hct)
        have HS3 := Lib.hid (show ∀ w', Behind wr w' → w'.rangeAt p (n * 64) (u8s c.h) from fun w' h j v hv => (hat.below h hat.lt).cell' (hch j v hv))
        have HIC := Lib.hid (HaveHzInfo hc64)
        have hTD : toldB f key now n = tells key now c := by unfold toldB; rw [hfn]
        have HCL := Lib.hid hc64
        clear hO2 hb hbr hat hc hk hc1 hc2 hfn hct hch hc64
        by_cases hx1 : c.t ≤ now
        · have HE1 := Lib.hid (fun w => run_leq c.t now hx1 w)
          have HE2 := Lib.hid (fun w => run_add40 c.t ht0 ht1 w)
          by_cases hx2 : now ≤ c.t + 40
          · have HE3 := Lib.hid (fun w => run_leq now (c.t + 40) hx2 w)
            have hCall := fun w' (hb : Behind wr w') => behind_call hb (refhas_any c.h key HCL.out HKL.out w')
            cases hh : Hz.has c.h key
            · rw [hh] at hCall
              have HC1 := Lib.hid hCall
              have HTD := Lib.hid (show toldB f key now n = false by rw [hTD]; unfold tells; rw [hh]; simp)
              have HE := Lib.hid (show refT f key now (n + 1) = refT f key now n by rw [refT_succ, HTD.out]; simp)
              clear hCall hTD hh
              go_wp2_with fail
              refine wp_region_class (Behind wr) (by kernel_rfl) (by kernel_rfl) (Below.refl _ _).drew ?_
              iterate 37 (first
                | go_big_quiet_skip
                | (with_reducible refine wpQuiet_loadB (.bool true) (by with_unfolding_all rfl) 4 _ (by with_unfolding_all rfl) HUB.out p (455 + n) (by with_unfolding_all rfl) (fun w h => HS1.out w h) ?_; simp only [Act.put, List.setIfInBounds_toArray, List.set_cons_zero, List.set_cons_succ])
                | (with_reducible refine wpQuiet_load1 (.int .i64 c.t) (by with_unfolding_all rfl) 3 _ (by with_unfolding_all rfl) .i64 HUI.out p (448 + n) (by with_unfolding_all rfl) (fun w h => HS2.out w h) ?_; simp only [Act.put, List.setIfInBounds_toArray, List.set_cons_zero, List.set_cons_succ])
                | (with_reducible refine wpQuiet_bin (by with_unfolding_all rfl) .leq 3 _ _ _ (by with_unfolding_all rfl) (.int .i64 c.t) (.int .i64 now) (.bool true) (by with_unfolding_all rfl) (by with_unfolding_all rfl) (fun w => rfl) (fun w => HE1.out w) ?_; simp only [Act.put, List.setIfInBounds_toArray, List.set_cons_zero, List.set_cons_succ])
                | (with_reducible refine wpQuiet_bin (by with_unfolding_all rfl) .add 3 _ _ _ (by with_unfolding_all rfl) (.int .i64 c.t) (.int .i64 40) (.int .i64 (c.t + 40)) (by with_unfolding_all rfl) (by with_unfolding_all rfl) (fun w => rfl) (fun w => HE2.out w) ?_; simp only [Act.put, List.setIfInBounds_toArray, List.set_cons_zero, List.set_cons_succ])
                | (with_reducible refine wpQuiet_bin (by with_unfolding_all rfl) .leq 3 _ _ _ (by with_unfolding_all rfl) (.int .i64 now) (.int .i64 (c.t + 40)) (.bool true) (by with_unfolding_all rfl) (by with_unfolding_all rfl) (fun w => rfl) (fun w => HE3.out w) ?_; simp only [Act.put, List.setIfInBounds_toArray, List.set_cons_zero, List.set_cons_succ])
                | (with_reducible refine wpQuiet_loadAll (by with_unfolding_all rfl) 26 _ (by with_unfolding_all rfl) p (n * 64) (by with_unfolding_all rfl) (u8s c.h) _ (fun w h => HS3.out w h) HUH.out (by with_unfolding_all rfl) HIC.out ?_; simp only [Act.put, List.setIfInBounds_toArray, List.set_cons_zero, List.set_cons_succ])
                | (with_reducible refine wpQuiet_loadAll (by with_unfolding_all rfl) 23 _ (by with_unfolding_all rfl) q (0) (by with_unfolding_all rfl) (u8s key) _ (fun w h => HRK.out w h) HUD.out (by with_unfolding_all rfl) HIK.out ?_; simp only [Act.put, List.setIfInBounds_toArray, List.set_cons_zero, List.set_cons_succ])
                | (with_reducible refine wpQuiet_call 25 [.agg (u8s c.h).toArray, .agg (u8s key).toArray] (.bool false) (by with_unfolding_all rfl) _ _ (by with_unfolding_all rfl) (by with_unfolding_all rfl) (fun _ => by kernel_rfl) (fun w' h => HC1.out w' h) ?_; simp only [Act.put, List.setIfInBounds_toArray, List.set_cons_zero, List.set_cons_succ])
                | (go_big_quiet_step (exact fun _ => rfl)))
              with_reducible refine wpQuiet_nil ?_
              intro w5 h5
              have HB5 := Lib.hid (HBr.out.trans (Below.mono h5 hBl))
              have HO5 := Lib.hid (HO2.out.below h5)
              clear h5
              go_wp2_with fail
              go_roundw
              case rel => exact ⟨n + 1, by omega, by omega, by go_num, by rw [HE.out]; exact HO5.out, HB5.out⟩
              case measure => simp [RowKit.intOf]; omega
            · rw [hh] at hCall
              have HC1 := Lib.hid hCall
              have HTD := Lib.hid (show toldB f key now n = true by rw [hTD]; unfold tells; rw [hh]; simp [hx1, hx2])
              have HE := Lib.hid (show refT f key now (n + 1) = refT f key now n ++ [(n : Int)] by rw [refT_succ, HTD.out]; rfl)
              clear hCall hTD hh
              go_wp2_with fail
              refine wp_region_class (Behind wr) (by kernel_rfl) (by kernel_rfl) (Below.refl _ _).drew ?_
              iterate 37 (first
                | go_big_quiet_skip
                | (with_reducible refine wpQuiet_loadB (.bool true) (by with_unfolding_all rfl) 4 _ (by with_unfolding_all rfl) HUB.out p (455 + n) (by with_unfolding_all rfl) (fun w h => HS1.out w h) ?_; simp only [Act.put, List.setIfInBounds_toArray, List.set_cons_zero, List.set_cons_succ])
                | (with_reducible refine wpQuiet_load1 (.int .i64 c.t) (by with_unfolding_all rfl) 3 _ (by with_unfolding_all rfl) .i64 HUI.out p (448 + n) (by with_unfolding_all rfl) (fun w h => HS2.out w h) ?_; simp only [Act.put, List.setIfInBounds_toArray, List.set_cons_zero, List.set_cons_succ])
                | (with_reducible refine wpQuiet_bin (by with_unfolding_all rfl) .leq 3 _ _ _ (by with_unfolding_all rfl) (.int .i64 c.t) (.int .i64 now) (.bool true) (by with_unfolding_all rfl) (by with_unfolding_all rfl) (fun w => rfl) (fun w => HE1.out w) ?_; simp only [Act.put, List.setIfInBounds_toArray, List.set_cons_zero, List.set_cons_succ])
                | (with_reducible refine wpQuiet_bin (by with_unfolding_all rfl) .add 3 _ _ _ (by with_unfolding_all rfl) (.int .i64 c.t) (.int .i64 40) (.int .i64 (c.t + 40)) (by with_unfolding_all rfl) (by with_unfolding_all rfl) (fun w => rfl) (fun w => HE2.out w) ?_; simp only [Act.put, List.setIfInBounds_toArray, List.set_cons_zero, List.set_cons_succ])
                | (with_reducible refine wpQuiet_bin (by with_unfolding_all rfl) .leq 3 _ _ _ (by with_unfolding_all rfl) (.int .i64 now) (.int .i64 (c.t + 40)) (.bool true) (by with_unfolding_all rfl) (by with_unfolding_all rfl) (fun w => rfl) (fun w => HE3.out w) ?_; simp only [Act.put, List.setIfInBounds_toArray, List.set_cons_zero, List.set_cons_succ])
                | (with_reducible refine wpQuiet_loadAll (by with_unfolding_all rfl) 26 _ (by with_unfolding_all rfl) p (n * 64) (by with_unfolding_all rfl) (u8s c.h) _ (fun w h => HS3.out w h) HUH.out (by with_unfolding_all rfl) HIC.out ?_; simp only [Act.put, List.setIfInBounds_toArray, List.set_cons_zero, List.set_cons_succ])
                | (with_reducible refine wpQuiet_loadAll (by with_unfolding_all rfl) 23 _ (by with_unfolding_all rfl) q (0) (by with_unfolding_all rfl) (u8s key) _ (fun w h => HRK.out w h) HUD.out (by with_unfolding_all rfl) HIK.out ?_; simp only [Act.put, List.setIfInBounds_toArray, List.set_cons_zero, List.set_cons_succ])
                | (with_reducible refine wpQuiet_call 25 [.agg (u8s c.h).toArray, .agg (u8s key).toArray] (.bool true) (by with_unfolding_all rfl) _ _ (by with_unfolding_all rfl) (by with_unfolding_all rfl) (fun _ => by kernel_rfl) (fun w' h => HC1.out w' h) ?_; simp only [Act.put, List.setIfInBounds_toArray, List.set_cons_zero, List.set_cons_succ])
                | (go_big_quiet_step (exact fun _ => rfl)))
              with_reducible refine wpQuiet_nil ?_
              intro w5 h5
              have HB5 := Lib.hid (HBr.out.trans (Below.mono h5 hBl))
              have HO5 := Lib.hid (HO2.out.below h5)
              clear h5
              have hs5 : B ≤ w5.heap.size := by rw [HBe.out]; exact HB5.out.size
              have hrl := refT_len f key now n
              go_wp2_with (at_builtin; go_loud ((refine wpList_append_Own _ rfl (.tmp 51) (.tmp 53) 45 rfl B 3 i0 _ 1 8 Try.underlying45 hi hz0 hz1 hz2 rfl (by omega) _ _ _ rfl (HO5.out.alloc _) ⟨_, 0, none⟩ 1 1 [.int .i64 (n : Int)] rfl rfl (one_new_at _ _ _ (by simp)) (by simp [Value.oneCell']) ?_ ?_ ?_ ?_); (focus (unfold maxLen; omega)); (focus omega); (focus (simp; omega)); intro v9 w9 hO9 hg9 hat9))
              go_roundw
              case rel =>
                refine ⟨n + 1, by omega, by omega, by go_num, ?_, ?_⟩
                · rw [HE.out, List.map_append, List.length_append]
                  exact hO9
                · exact own_below2 (HO5.out.alloc _) (HB5.out.alloc hs5 _) (Nat.le_refl _) (by simp; omega) hg9
              case measure => simp [RowKit.intOf]; omega
          · have HE3 := Lib.hid (fun w => run_leq0 now (c.t + 40) hx2 w)
            have HTD := Lib.hid (show toldB f key now n = false by rw [hTD]; unfold tells; simp [hx2])
            have HE := Lib.hid (show refT f key now (n + 1) = refT f key now n by rw [refT_succ, HTD.out]; simp)
            clear hTD
            go_wp2_with fail
            refine wp_region_class (Behind wr) (by kernel_rfl) (by kernel_rfl) (Below.refl _ _).drew ?_
            iterate 37 (first
              | go_big_quiet_skip
              | (with_reducible refine wpQuiet_loadB (.bool true) (by with_unfolding_all rfl) 4 _ (by with_unfolding_all rfl) HUB.out p (455 + n) (by with_unfolding_all rfl) (fun w h => HS1.out w h) ?_; simp only [Act.put, List.setIfInBounds_toArray, List.set_cons_zero, List.set_cons_succ])
              | (with_reducible refine wpQuiet_load1 (.int .i64 c.t) (by with_unfolding_all rfl) 3 _ (by with_unfolding_all rfl) .i64 HUI.out p (448 + n) (by with_unfolding_all rfl) (fun w h => HS2.out w h) ?_; simp only [Act.put, List.setIfInBounds_toArray, List.set_cons_zero, List.set_cons_succ])
              | (with_reducible refine wpQuiet_bin (by with_unfolding_all rfl) .leq 3 _ _ _ (by with_unfolding_all rfl) (.int .i64 c.t) (.int .i64 now) (.bool true) (by with_unfolding_all rfl) (by with_unfolding_all rfl) (fun w => rfl) (fun w => HE1.out w) ?_; simp only [Act.put, List.setIfInBounds_toArray, List.set_cons_zero, List.set_cons_succ])
              | (with_reducible refine wpQuiet_bin (by with_unfolding_all rfl) .add 3 _ _ _ (by with_unfolding_all rfl) (.int .i64 c.t) (.int .i64 40) (.int .i64 (c.t + 40)) (by with_unfolding_all rfl) (by with_unfolding_all rfl) (fun w => rfl) (fun w => HE2.out w) ?_; simp only [Act.put, List.setIfInBounds_toArray, List.set_cons_zero, List.set_cons_succ])
              | (with_reducible refine wpQuiet_bin (by with_unfolding_all rfl) .leq 3 _ _ _ (by with_unfolding_all rfl) (.int .i64 now) (.int .i64 (c.t + 40)) (.bool false) (by with_unfolding_all rfl) (by with_unfolding_all rfl) (fun w => rfl) (fun w => HE3.out w) ?_; simp only [Act.put, List.setIfInBounds_toArray, List.set_cons_zero, List.set_cons_succ])
              | (go_big_quiet_step (exact fun _ => rfl)))
            with_reducible refine wpQuiet_nil ?_
            intro w5 h5
            have HB5 := Lib.hid (HBr.out.trans (Below.mono h5 hBl))
            have HO5 := Lib.hid (HO2.out.below h5)
            clear h5
            go_wp2_with fail
            go_roundw
            case rel => exact ⟨n + 1, by omega, by omega, by go_num, by rw [HE.out]; exact HO5.out, HB5.out⟩
            case measure => simp [RowKit.intOf]; omega
        · have HE1 := Lib.hid (fun w => run_leq0 c.t now hx1 w)
          have HTD := Lib.hid (show toldB f key now n = false by rw [hTD]; unfold tells; simp [hx1])
          have HE := Lib.hid (show refT f key now (n + 1) = refT f key now n by rw [refT_succ, HTD.out]; simp)
          clear hTD
          go_wp2_with fail
          refine wp_region_class (Behind wr) (by kernel_rfl) (by kernel_rfl) (Below.refl _ _).drew ?_
          iterate 37 (first
            | go_big_quiet_skip
            | (with_reducible refine wpQuiet_loadB (.bool true) (by with_unfolding_all rfl) 4 _ (by with_unfolding_all rfl) HUB.out p (455 + n) (by with_unfolding_all rfl) (fun w h => HS1.out w h) ?_; simp only [Act.put, List.setIfInBounds_toArray, List.set_cons_zero, List.set_cons_succ])
            | (with_reducible refine wpQuiet_load1 (.int .i64 c.t) (by with_unfolding_all rfl) 3 _ (by with_unfolding_all rfl) .i64 HUI.out p (448 + n) (by with_unfolding_all rfl) (fun w h => HS2.out w h) ?_; simp only [Act.put, List.setIfInBounds_toArray, List.set_cons_zero, List.set_cons_succ])
            | (with_reducible refine wpQuiet_bin (by with_unfolding_all rfl) .leq 3 _ _ _ (by with_unfolding_all rfl) (.int .i64 c.t) (.int .i64 now) (.bool false) (by with_unfolding_all rfl) (by with_unfolding_all rfl) (fun w => rfl) (fun w => HE1.out w) ?_; simp only [Act.put, List.setIfInBounds_toArray, List.set_cons_zero, List.set_cons_succ])
            | (go_big_quiet_step (exact fun _ => rfl)))
          with_reducible refine wpQuiet_nil ?_
          intro w5 h5
          have HB5 := Lib.hid (HBr.out.trans (Below.mono h5 hBl))
          have HO5 := Lib.hid (HO2.out.below h5)
          clear h5
          go_wp2_with fail
          go_roundw
          case rel => exact ⟨n + 1, by omega, by omega, by go_num, by rw [HE.out]; exact HO5.out, HB5.out⟩
          case measure => simp [RowKit.intOf]; omega
    · have hn : n = 7 := by omega
      have hfin : refT f key now n = mayS f key now := by rw [hn, refT_all (HF.out 0 (by omega))]
      rw [hfin] at hO2
      have HO3 := Lib.hid hO2
      have HBF := Lib.hid (HB0.out.trans (hbr.mono hbw))
      clear hO2 HO2 hb hbr hfin hn
      go_wp2_with fail
      go_ret
      obtain ⟨A, c, hv, hI⟩ := ints_own HO3.out
      exact ⟨A, c, by show Ending.returned u7 = _; rw [hv], hI, HBF.out⟩
end Go.Proofs.Ytcpnlojcmlldpaa
