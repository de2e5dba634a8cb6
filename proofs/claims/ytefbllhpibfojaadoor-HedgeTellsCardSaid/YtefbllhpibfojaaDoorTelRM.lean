/- HedgeTells: the text of records. -/
import Derived.Test.YtefbllhpibfojaaDoorTelPM
import Derived.Test.YtefbllhpibfojaaDoorRecTM
namespace Go.Proofs.YtefbllhpibfojaaDoor
open Go.Proofs Stab Go.Shelf Go.RowKit Go.Lib Go.Sort

set_option maxRecDepth 100000 in
set_option maxHeartbeats 4000000 in
theorem rowt_any (A : Option Addr) (c n : Nat) (l : List Rec) (w : World) (hn : n = l.length) (hE : EncIn encR 65 w A l) (hlen : n < 1073741824) :
    Calls Tryd.prog 18 #[.slice A n c] w fun e w' => e = .returned (.string ⟨(textR l).toArray⟩) ∧ Below w.heap.size w w' := by
  have HE := Lib.hid hE
  have HNN := Lib.hid hn
  have HUe := Lib.hid Tryd.underlying29
  clear hE hn
  go_enter Tryd.func18, Tryd.ntmps18
  go_wp2_with (first
    | ((with_reducible refine wpList_to (.slice (some ⟨w.heap.size, 0, none⟩) 0 0) (w.alloc (.cells #[] 9)) rfl (exec_none rfl Tryd.underlying69 sizeStr w) ?_)))
  have hO0 := own_none1 w 9 (base := w.heap.size) (Nat.le_refl _)
  have hb0 : Below w.heap.size w (w.alloc (.cells #[] 9)) := (Below.refl _ _).alloc (Nat.le_refl _) _
  have HO0 := Lib.hid hO0
  have HB0 := Lib.hid hb0
  clear hO0 hb0
  generalize w.alloc (.cells #[] 9) = w0 at HO0 HB0 ⊢
  go_loopg [3, 4] n (fun gg s3 s4 wr => ∃ (k : Nat) (v9 : Value), v9 = s3 ∧ s4 = .int .i64 k ∧ k ≤ n ∧ n - k ≤ gg ∧ Hid (Own wr w.heap.size 9 1 v9 k (((l.take k).map fun x => (⟨(rowB x).toArray⟩ : ByteArray)).map Value.string)) ∧ Hid (Below w.heap.size w wr))
  case atStart => exact ⟨0, _, rfl, rfl, Nat.zero_le _, by omega, HO0.out, HB0.out⟩
  case round =>
    obtain ⟨k, v9, hv9, rfl, hk, hgg, HO, HBW⟩ := hrel
    subst hv9
    by_cases hlt : k < n
    · have hltz : (k : Int) < (n : Int) := by omega
      have i0 : (0 : Int) ≤ (k : Int) := by omega
      have hkl : k < l.length := by have := HNN.out; omega
      obtain ⟨gA, off, hA, hgA, hrg⟩ := HE.out.at hkl
      obtain ⟨x, hx⟩ : ∃ x, x = l[k] := ⟨_, rfl⟩
      rw [← hx] at hrg
      have HR := Lib.hid (show ∀ W, Behind w W → W.rangeAt gA (off + k * 65) (encR x) from fun W hW => range_below' hrg hW hgA)
      have HX := Lib.hid hx
      clear hrg hx hgA
      subst hA
      obtain ⟨iS, hiS, hzS, hsS, hbS⟩ := info_parts infoStr
      have HIS := Lib.hid (And.intro hiS (And.intro hzS (And.intro hsS hbS)))
      have HSZ := Lib.hid (cat_sizes x)
      clear hiS hzS hsS hbS
      go_wp2_with fail
      refine wp_region_mix [(0, true), (1, true), (2, true), (3, true), (4, true), (5, true), (6, true), (7, true), (8, true), (9, true), (10, true), (11, true), (14, true), (15, true), (16, true), (17, true), (18, true), (19, true), (12, false), (13, true), (20, true), (21, false), (22, false), (23, true)] (Behind w)
        (by kernel_rfl) (by kernel_rfl) (fun _ _ d _ _ h => by cases d <;> exact h) (by kernel_rfl) (by decide) (show Behind w wr.drew from HBW.out.drew) ?_
      repeat (
        refine wpMix_q (by with_unfolding_all rfl) (by kernel_rfl) ?_
        first
          | go_big_quiet_skip
          | ((with_reducible refine wpQuiet_val (.string ⟨x.key.toArray⟩) (by with_unfolding_all rfl) (fun w h => exec_conv (.tmp 17) (by with_unfolding_all rfl) (by with_unfolding_all rfl) x.hk.symm (rec_key (HR.out w h))) ?_); simp only [Act.put, List.setIfInBounds_toArray, List.set_cons_zero, List.set_cons_succ])
          | ((with_reducible refine wpQuiet_val (.string ⟨x.out.toArray⟩) (by with_unfolding_all rfl) (fun w h => exec_conv (.tmp 30) (by with_unfolding_all rfl) (by with_unfolding_all rfl) x.ho.symm (rec_out (HR.out w h))) ?_); simp only [Act.put, List.setIfInBounds_toArray, List.set_cons_zero, List.set_cons_succ])
          | ((with_reducible refine wpQuiet_load1 (.int .i64 x.code) (by with_unfolding_all rfl) 29 _ (by with_unfolding_all rfl) .i64 HUe.out gA (off + k * 65 + 32) (by with_unfolding_all rfl) (fun w h => rec_code (HR.out w h)) ?_); simp only [Act.put, List.setIfInBounds_toArray, List.set_cons_zero, List.set_cons_succ])
          | (go_big_quiet_step (exact fun _ => rfl))
        refine wpMix_qnil ?_)
      refine wpMix_call 45 [.int .i64 x.code] (fun v w' => v = .string ⟨(Sap.num x.code).toArray⟩ ∧ Below wr.heap.size wr w') (by with_unfolding_all rfl) (by with_unfolding_all rfl) (by with_unfolding_all rfl) ((num_any x.code x.hc.1 x.hc.2 wr.drew).mono (fun e w' ⟨he, hb⟩ => ⟨_, he, (show Below _ _ _ from HBW.out.trans (((Below.refl _ _).drew.trans hb).mono HBW.out.size)), rfl, (Below.refl _ _).drew.trans hb⟩)) ?_
      rintro v8 w8 hS8 ⟨rfl, hb8⟩
      simp only [Act.put, List.setIfInBounds_toArray, List.set_cons_zero, List.set_cons_succ]
      have hs9 : (⟨x.key.toArray⟩ ++ ⟨(Sap.num x.code).toArray⟩ ++ ⟨x.out.toArray⟩ : ByteArray) = ⟨(rowB x).toArray⟩ := by
        apply ByteArray.ext
        simp [ByteArray.data_append, rowB]
      have HS9 := Lib.hid hs9
      clear hs9
      repeat (
        refine wpMix_q (by with_unfolding_all rfl) (by kernel_rfl) ?_
        first
          | go_big_quiet_skip
          | ((with_reducible refine wpQuiet_val (.string (⟨x.key.toArray⟩ ++ ⟨(Sap.num x.code).toArray⟩)) (by with_unfolding_all rfl) (fun w h => exec_cat (.tmp 18) (.tmp 24) _ (by with_unfolding_all rfl) (by with_unfolding_all rfl) (by with_unfolding_all rfl) HSZ.out.1 w) ?_); simp only [Act.put, List.setIfInBounds_toArray, List.set_cons_zero, List.set_cons_succ])
          | ((with_reducible refine wpQuiet_val (.string ⟨(rowB x).toArray⟩) (by with_unfolding_all rfl) (fun w h => by rw [← HS9.out]; exact exec_cat (.tmp 25) (.tmp 31) _ (by with_unfolding_all rfl) (by with_unfolding_all rfl) (by with_unfolding_all rfl) HSZ.out.2 w) ?_); simp only [Act.put, List.setIfInBounds_toArray, List.set_cons_zero, List.set_cons_succ])
          | (go_big_quiet_step (exact fun _ => rfl))
        refine wpMix_qnil ?_)
      refine wpMix_put (.slice (some ⟨w8.heap.size, 0, none⟩) 1 1) (w8.alloc (.cells #[.string ⟨(rowB x).toArray⟩] 9)) (by with_unfolding_all rfl) (by with_unfolding_all rfl) (exec_one_str (.tmp 32) (by with_unfolding_all rfl) (by with_unfolding_all rfl) w8) (show Below _ _ _ from Below.alloc hS8 (Below.size hS8) _) ?_
      simp only [Act.put, List.setIfInBounds_toArray, List.set_cons_zero, List.set_cons_succ]
      have HO8 := Lib.hid ((HO.out.below hb8).alloc (.cells #[.string ⟨(rowB x).toArray⟩] 9))
      refine wpMix_step (by with_unfolding_all rfl) (by with_unfolding_all rfl) (fun K hK => wp_append_Own (w8.alloc (.cells #[.string ⟨(rowB x).toArray⟩] 9)) (.tmp 12) (.tmp 33) 69 (by with_unfolding_all rfl) w.heap.size 9 _ _ 1 16 Tryd.underlying69 HIS.out.1 HIS.out.2.1 HIS.out.2.2.1 HIS.out.2.2.2 rfl (by decide) v9 k _ (by with_unfolding_all rfl) HO8.out ⟨w8.heap.size, 0, none⟩ 1 1 [.string ⟨(rowB x).toArray⟩] (by with_unfolding_all rfl) rfl (one_new w8 _ _) (by intro u hu; rw [List.mem_singleton.1 hu]; rfl) (by unfold maxLen; omega) (by omega) (by have := HBW.out.size; have := Below.size hS8; simp; omega) ?_)
      intro v10 w10 hO10 hg10 _
      have hb10 := own_below2 HO8.out (show Below w.heap.size w (w8.alloc (.cells #[.string ⟨(rowB x).toArray⟩] 9)) from Below.alloc hS8 (Below.size hS8) _) (Nat.le_refl _) (by have := Below.size hS8; simp; omega) hg10
      refine hK _ _ hb10 ?_
      simp only [Act.put, List.setIfInBounds_toArray, List.set_cons_zero, List.set_cons_succ]
      repeat (
        refine wpMix_q (by with_unfolding_all rfl) (by kernel_rfl) ?_
        first
          | go_big_quiet_skip
          | (go_big_quiet_step (exact fun _ => rfl))
        refine wpMix_qnil ?_)
      refine wpMix_nil ?_
      have HO10 := Lib.hid hO10
      have HB10 := Lib.hid hb10
      clear hO10 hg10 hK hb10 hS8 hb8
      go_wp2_with fail
      go_roundg (n - (k + 1))
      case measure => omega
      case rel =>
        refine ⟨k + 1, v10, rfl, by go_num, by omega, Nat.le_refl _, ?_, HB10.out⟩
        show Own _ _ _ _ _ _ _
        rw [List.take_succ_eq_append_getElem hkl, List.map_append, List.map_append, ← HX.out]
        exact HO10.out
    · have hkn : k = n := by omega
      have hltz : ¬ (k : Int) < (n : Int) := by omega
      have hkt : l.take k = l := List.take_of_length_le (by have := HNN.out; omega)
      obtain ⟨ss, hss⟩ : ∃ ss, ss = l.map fun x => (⟨(rowB x).toArray⟩ : ByteArray) := ⟨_, rfl⟩
      have hO := HO.out
      rw [hkt, ← hss, hkn] at hO
      have hsn : ss.length = n := by rw [hss, List.length_map]; exact HNN.out.symm
      obtain ⟨A9, c9, rfl, hst⟩ := hO.strs hsn.symm (p := wr.heap.size) (.inr (Nat.le_refl _))
      have hrow := saprow_any A9 c9 ss wr hst (by rw [hss]; have h1 := flat_rows l; have h2 := HNN.out; omega) (by omega)
      rw [hsn] at hrow
      have hdg : Sap.row (lists ss) = textR l := by
        have : lists ss = l.map rowB := by rw [hss]; simp [lists]
        rw [this]; rfl
      rw [hdg] at hrow
      have HROW := Lib.hid hrow
      clear hO hst hrow hdg hss hkn hsn hkt HO
      go_wp2_with (first
        | (go_at_call 48; (with_reducible refine Calls.mono HROW.out ?_); rintro e w11 ⟨rfl, hb⟩; have HB11 := Lib.hid hb; clear hb))
      go_ret
      exact ⟨rfl, HBW.out.trans (HB11.out.mono HBW.out.size)⟩
end Go.Proofs.YtefbllhpibfojaaDoor
