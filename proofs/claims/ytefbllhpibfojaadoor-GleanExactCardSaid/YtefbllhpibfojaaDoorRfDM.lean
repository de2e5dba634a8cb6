/- The reference's Of of layer 15. -/
import Derived.Test.YtefbllhpibfojaaDoorRfCM
import Derived.Test.YtefbllhpibfojaaDoorRfNM
import Derived.Test.YtefbllhpibfojaaDoorQRefRowM
namespace Go.Proofs.YtefbllhpibfojaaDoor
open Go.Proofs Stab Go.Shelf Go.RowKit Go.Lib Go.Sort

theorem StrsIn.grown {w w' : World} {A : Option Addr} {ss : List ByteArray} (h : StrsIn w A ss) {row : Option Nat} (hg : w.grownBy w' row) (hne : ∀ ad, A = some ad → some ad.block ≠ row) : StrsIn w' A ss := fun h0 => by
  obtain ⟨ad, e, hlt, hc⟩ := h h0
  refine ⟨ad, e, Nat.lt_of_lt_of_le hlt hg.size, fun i hi => ?_⟩
  have hbk : (ad.add i).block = ad.block := by unfold Addr.add; split <;> rfl
  have h1 := hc i hi
  have h2 := hg.block ad.block hlt (hne ad e)
  rw [← hbk] at h2
  unfold World.cell? at h1 ⊢
  rw [h2]
  exact h1
set_option maxRecDepth 100000 in
set_option maxHeartbeats 1000000 in
theorem refof_bad (r : Rng) (hq : placeB r.depth r.pref = false) (A : Option Addr) (n c : Nat) (w : World) :
    Calls Tryd.prog 23 #[.int .i64 r.depth, .int .i64 r.pref, .slice A n c] w fun e w' => e = .returned (.tuple #[.agg (encG Rng.zero).toArray, .int .i64 1]) ∧ Below w.heap.size w w' := by
  have hpl : ∀ W, Calls Tryd.prog 58 #[.int .i64 r.depth, .int .i64 r.pref] W fun e w' => e = .returned (.bool false) ∧ W = w' := fun W => by rw [← hq]; exact refcan_any _ _ W r.hp
  have HP := Lib.hid hpl
  have HL := Lib.hid (show (Tryd.prog.info? 26).map (·.size) = some (encG Rng.zero).length by rw [encG_len]; exact infoRng)
  have HLL := Lib.hid (show (encG Rng.zero).length = (encG default).length by rw [encG_len, encG_len])
  clear hpl
  go_enter Tryd.func23, Tryd.ntmps23
  go_wp2_with (first
    | (with_reducible refine wpList_allocZ (o := ⟨some 6, _, _, _, _, _⟩) 26 (encG default) rfl rfl zeroRng ?_; intro g6 w2 hg2 hat2 hb2; have HAT2 := Lib.hid hat2; have HB2 := Lib.hid hb2; have HG2 := Lib.hid hg2; clear hat2 hb2 hg2)
    | (go_at_call 58; refine Calls.mono (HP.out _) ?_; rintro e w' ⟨rfl, rfl⟩)
    | (with_reducible refine wpList_build (encG Rng.zero).toArray (by with_unfolding_all rfl) 26 #[] rfl built_rng0 ?_)
    | (with_reducible refine wpList_storeAll rfl 26 (.tmp 6) (.tmp 17) rfl g6 rfl _ _ (encG Rng.zero) HAT2.out rfl HLL.out HL.out (encG_one _) ?_; intro w3 hat3 hg3 hs3; have HAT3 := Lib.hid hat3; have HG3 := Lib.hid hg3; clear hat3 hg3 hs3))
  refine ret_cellTmp rfl rfl g6 _ _ _ rfl HAT3.out Tryd.underlying26 rfl HL.out _ rfl ⟨rfl, ?_⟩
  exact Below.ofGrown HB2.out HG3.out HB2.out.size (Nat.le_of_eq HG2.out.symm)
set_option maxRecDepth 100000 in
set_option maxHeartbeats 2000000 in
theorem refof_good (r : Rng) (hq : placeB r.depth r.pref = true) (A : Option Addr) (c n : Nat) (l : List Rec) (w : World) (hln : n = l.length) (hE : EncIn encR 65 w A l) (hn : n ≤ 80) (z : Rng) (hz : z = ofR r l) :
    Calls Tryd.prog 23 #[.int .i64 r.depth, .int .i64 r.pref, .slice A n c] w fun e w' => e = .returned (.tuple #[.agg (encG z).toArray, .int .i64 0]) ∧ Below w.heap.size w w' := by
  have hpl : ∀ W, Calls Tryd.prog 58 #[.int .i64 r.depth, .int .i64 r.pref] W fun e w' => e = .returned (.bool true) ∧ W = w' := fun W => by rw [← hq]; exact refcan_any _ _ W r.hp
  obtain ⟨its, hits⟩ : ∃ its, its = itemsR (bare r) l := ⟨_, rfl⟩
  obtain ⟨NI, hNI⟩ : ∃ N, N = its.length := ⟨_, rfl⟩
  have hil := itemsR_len (bare r) l
  have hNIb : NI ≤ 80 := by rw [hNI, hits]; omega
  have HIT := Lib.hid (show ∀ W, EncIn encR 65 W A l → Calls Tryd.prog 27 #[.agg (encG (bare r)).toArray, .slice A n c] W fun e w' => ∃ A' c', e = .returned (.slice A' NI c') ∧ NI ≤ c' ∧ EncIn encR 65 w' A' its ∧ Below W.heap.size W w' from fun W h => by rw [hits] at hNI ⊢; exact refitems_any (bare r) A c l W n NI hln hNI h (by omega))
  have HP := Lib.hid hpl
  have HL := Lib.hid (show (Tryd.prog.info? 26).map (·.size) = some (encG (bare r)).length by rw [encG_len]; exact infoRng)
  have HL2 := Lib.hid (show ∀ x, (Tryd.prog.info? 38).map (·.size) = some (encR x).length from fun x => by rw [encR_len]; exact infoRec)
  have HL3 := Lib.hid (show ∀ x, (Tryd.prog.info? 26).map (·.size) = some (encG x).length from fun x => by rw [encG_len]; exact infoRng)
  have HLL := Lib.hid (show ∀ x y, (encG x).length = (encG y).length from fun x y => by rw [encG_len, encG_len])
  have HLR := Lib.hid (show ∀ x y, (encR x).length = (encR y).length from fun x y => by rw [encR_len, encR_len])
  have HUD := Lib.hid Tryd.underlying24
  have HUe := Lib.hid Tryd.underlying29
  have HDG := Lib.hid (show ∀ l : List UInt8, l.length = 32 → (Tryd.prog.info? 24).map (·.size) = some (u8s l).length from fun l hl => by rw [u8s_length, hl]; exact infoDg)
  have HE := Lib.hid hE
  have HITS := Lib.hid hits
  have HNI := Lib.hid hNI
  have HZ := Lib.hid hz
  have HLN := Lib.hid hln
  clear hpl hE hits hNI hz hil hln
  go_enter Tryd.func23, Tryd.ntmps23
  go_wp2_with (first
    | (with_reducible refine wpList_allocZ (o := ⟨some 6, _, _, _, _, _⟩) 26 (encG default) rfl rfl zeroRng ?_; intro g6 w2 hg2 hat2 hb2; have HAT2 := Lib.hid hat2; have HB2 := Lib.hid hb2; have HG2 := Lib.hid hg2; clear hat2 hb2 hg2)
    | (go_at_call 58; refine Calls.mono (HP.out _) ?_; rintro e w' ⟨rfl, rfl⟩)
    | (with_reducible refine wpList_build (encG (bare r)).toArray (by with_unfolding_all rfl) 26 #[(0, .tmp 18), (1, .tmp 19)] rfl (built_at (built_bare r) (by with_unfolding_all rfl)) ?_)
    | (with_reducible refine wpList_allocZ (o := ⟨some 8, _, _, _, _, _⟩) 26 (encG default) rfl rfl zeroRng ?_; intro g8 w3 hg3 hat3 hb3; have HAT3 := Lib.hid hat3; have HB3 := Lib.hid hb3; have HG3 := Lib.hid hg3; clear hat3 hb3 hg3)
    | (with_reducible refine wpList_storeAll rfl 26 (.tmp 8) (.tmp 20) rfl g8 rfl _ _ (encG (bare r)) HAT3.out rfl (HLL.out _ _) HL.out (encG_one _) ?_; intro w4 hat4 hg4 hs4; have HAT4 := Lib.hid hat4; have HB4 := Lib.hid (HB3.out.trans (Below.ofGrown (Below.refl _ _) hg4 HB3.out.size (Nat.le_of_eq HG3.out.symm))); clear hat4 hg4 hs4)
    | (with_reducible refine wpList_loadAll rfl 26 (.tmp 8) rfl g8 rfl _ _ _ HAT4.out Tryd.underlying26 rfl HL.out ?_)
    | (go_at_call 27; refine Calls.mono (HIT.out _ (HE.out.up (HB2.out.trans (HB4.out.mono HB2.out.size)))) ?_; rintro e w5 ⟨A5, c5, rfl, _, hE5, hb⟩; have HE5 := Lib.hid hE5; have HB5 := Lib.hid hb; clear hb hE5)
    | ((with_reducible refine wpList_to (.slice (some ⟨w5.heap.size, 0, none⟩) 0 0) (w5.alloc (.cells #[] 9)) rfl (exec_none rfl Tryd.underlying69 sizeStr w5) ?_)))
  have hO0 := own_none1 w5 9 (base := w5.heap.size) (Nat.le_refl _)
  have hb0 : Below w5.heap.size w5 (w5.alloc (.cells #[] 9)) := (Below.refl _ _).alloc (Nat.le_refl _) _
  have HO0 := Lib.hid hO0
  have HB0 := Lib.hid hb0
  clear hO0 hb0
  generalize w5.alloc (.cells #[] 9) = w6 at HO0 HB0 ⊢
  go_loopg [10, 11] NI (fun gg s9 s24 wr => ∃ (k : Nat) (v9 : Value), v9 = s9 ∧ s24 = .int .i64 k ∧ k ≤ NI ∧ NI - k ≤ gg ∧ Hid (Own wr w5.heap.size 9 1 v9 k (((its.take k).map fun x => (⟨(rowB x).toArray⟩ : ByteArray)).map Value.string)) ∧ Hid (Below w5.heap.size w5 wr))
  case atStart => exact ⟨0, _, rfl, rfl, Nat.zero_le _, by omega, HO0.out, HB0.out⟩
  case round =>
    obtain ⟨k, v9, hv9, rfl, hk, hgg, HO, HBW⟩ := hrel
    subst hv9
    by_cases hlt : k < NI
    · have hltz : (k : Int) < (NI : Int) := by omega
      have i0 : (0 : Int) ≤ (k : Int) := by omega
      have hkl : k < its.length := by have := HNI.out; omega
      obtain ⟨gA, off, hA, hgA, hrg⟩ := (HE5.out.up HBW.out).at hkl
      obtain ⟨x, hx⟩ : ∃ x, x = its[k] := ⟨_, rfl⟩
      rw [← hx] at hrg
      have HR := Lib.hid hrg
      have HX := Lib.hid hx
      clear hrg hx hgA
      subst hA
      go_upto_region 10 with (first
        | (with_reducible refine wpList_loadW (by with_unfolding_all rfl) 38 (.tmp 33) rfl gA (off + k * 65) (by with_unfolding_all rfl) (encR x) _ HR.out Tryd.underlying38 (by with_unfolding_all rfl) (HL2.out x) ?_)
        | (with_reducible refine wpList_allocZ (o := ⟨some 12, _, _, _, _, _⟩) 38 (encR default) rfl rfl zeroRec ?_; intro g12 w7a hg6 hat6 hb6; have HAT6 := Lib.hid hat6; have HB6 := Lib.hid hb6; have HG6 := Lib.hid hg6; clear hat6 hb6 hg6)
        | (with_reducible refine wpList_storeAll rfl 38 (.tmp 12) (.tmp 34) rfl g12 rfl _ _ (encR x) HAT6.out rfl (HLR.out _ _) (HL2.out x) (encR_one _) ?_; intro w7 hat7 hg7 hs7; have HAT7 := Lib.hid hat7; have HB7 := Lib.hid (Below.ofGrown HB6.out hg7 HB6.out.size (Nat.le_of_eq HG6.out.symm)); clear hat7 hg7 hs7))
      obtain ⟨iS, hiS, hzS, hsS, hbS⟩ := info_parts infoStr
      have HIS := Lib.hid (And.intro hiS (And.intro hzS (And.intro hsS hbS)))
      have HSZ := Lib.hid (cat_sizes x)
      clear hiS hzS hsS hbS
      try simp only [Act.put, List.setIfInBounds_toArray, List.set_cons_zero, List.set_cons_succ]
      refine wp_region_mix [(0, true), (1, true), (2, true), (4, true), (5, true), (8, true), (9, true), (3, false), (6, false), (7, true), (10, false), (11, true), (12, false), (13, false), (14, true)] (AtRec g12 x)
        (by kernel_rfl) (by kernel_rfl) (fun _ _ d _ _ h => by cases d <;> exact h) (by kernel_rfl) (by decide) HAT7.out ?_
      have hat0 : AtRec g12 x w7.drew := HAT7.out
      have HK1 := Lib.hid (show ∀ W, AtRec g12 x W → W.rangeAt g12 0 (u8s x.key) from fun W h => At.key h)
      have HK2 := Lib.hid (show ∀ W, AtRec g12 x W → W.rangeAt g12 33 (u8s x.out) from fun W h => At.out h)
      have HK3 := Lib.hid (show ∀ W, AtRec g12 x W → W.cell? ⟨g12, 32, none⟩ = some (.int .i64 x.code) from fun W h => At.code h)
      have hb0 : Below w7.heap.size w7 w7.drew := (Below.refl _ _).drew
      repeat (
        refine wpMix_q (by with_unfolding_all rfl) (by kernel_rfl) ?_
        first
          | go_big_quiet_skip
          | ((with_reducible refine wpQuiet_loadAll (by with_unfolding_all rfl) 24 _ (by with_unfolding_all rfl) g12 (0) (by with_unfolding_all rfl) (u8s x.key) _ (fun w h => HK1.out w h) HUD.out (by with_unfolding_all rfl) (HDG.out _ x.hk) ?_); simp only [Act.put, List.setIfInBounds_toArray, List.set_cons_zero, List.set_cons_succ])
          | ((with_reducible refine wpQuiet_loadAll (by with_unfolding_all rfl) 24 _ (by with_unfolding_all rfl) g12 (33) (by with_unfolding_all rfl) (u8s x.out) _ (fun w h => HK2.out w h) HUD.out (by with_unfolding_all rfl) (HDG.out _ x.ho) ?_); simp only [Act.put, List.setIfInBounds_toArray, List.set_cons_zero, List.set_cons_succ])
          | ((with_reducible refine wpQuiet_load1 (.int .i64 x.code) (by with_unfolding_all rfl) 29 _ (by with_unfolding_all rfl) .i64 HUe.out g12 (32) (by with_unfolding_all rfl) (fun w h => HK3.out w h) ?_); simp only [Act.put, List.setIfInBounds_toArray, List.set_cons_zero, List.set_cons_succ])
          | (go_big_quiet_step (exact fun _ => rfl))
        refine wpMix_qnil ?_)
      refine wpMix_call 59 [.agg (u8s x.key).toArray] (fun v w' => v = .string ⟨x.key.toArray⟩ ∧ Below w7.heap.size w7 w') (by with_unfolding_all rfl) (by with_unfolding_all rfl) (by with_unfolding_all rfl) ((refbytes_any x.key x.hk _).mono (fun e w' ⟨he, hb⟩ => ⟨_, he, At.below hat0 hb hat0.lt, rfl, hb0.trans (hb.mono hb0.size)⟩)) ?_
      rintro v8 z1 hat1 ⟨rfl, hb1⟩
      simp only [Act.put, List.setIfInBounds_toArray, List.set_cons_zero, List.set_cons_succ]
      refine wpMix_call 60 [.int .i64 x.code] (fun v w' => v = .string ⟨(Sap.num x.code).toArray⟩ ∧ Below w7.heap.size w7 w') (by with_unfolding_all rfl) (by with_unfolding_all rfl) (by with_unfolding_all rfl) ((refnumi_any x.code x.hc.1 x.hc.2 _).mono (fun e w' ⟨he, hb⟩ => ⟨_, he, At.below hat1 hb hat1.lt, rfl, hb1.trans (hb.mono hb1.size)⟩)) ?_
      rintro v8 z2 hat2 ⟨rfl, hb2⟩
      simp only [Act.put, List.setIfInBounds_toArray, List.set_cons_zero, List.set_cons_succ]
      repeat (
        refine wpMix_q (by with_unfolding_all rfl) (by kernel_rfl) ?_
        first
          | go_big_quiet_skip
          | ((with_reducible refine wpQuiet_val (.string (⟨x.key.toArray⟩ ++ ⟨(Sap.num x.code).toArray⟩)) (by with_unfolding_all rfl) (fun w h => exec_cat (.tmp 38) (.tmp 41) _ (by with_unfolding_all rfl) (by with_unfolding_all rfl) (by with_unfolding_all rfl) HSZ.out.1 w) ?_); simp only [Act.put, List.setIfInBounds_toArray, List.set_cons_zero, List.set_cons_succ])
          | (go_big_quiet_step (exact fun _ => rfl))
        refine wpMix_qnil ?_)
      refine wpMix_call 59 [.agg (u8s x.out).toArray] (fun v w' => v = .string ⟨x.out.toArray⟩ ∧ Below w7.heap.size w7 w') (by with_unfolding_all rfl) (by with_unfolding_all rfl) (by with_unfolding_all rfl) ((refbytes_any x.out x.ho _).mono (fun e w' ⟨he, hb⟩ => ⟨_, he, At.below hat2 hb hat2.lt, rfl, hb2.trans (hb.mono hb2.size)⟩)) ?_
      rintro v8 w8 hS8 ⟨rfl, hb8⟩
      simp only [Act.put, List.setIfInBounds_toArray, List.set_cons_zero, List.set_cons_succ]
      have hs9 : (⟨x.key.toArray⟩ ++ ⟨(Sap.num x.code).toArray⟩ ++ ⟨x.out.toArray⟩ : ByteArray) = ⟨(rowB x).toArray⟩ := by
        apply ByteArray.ext
        simp [ByteArray.data_append, rowB]
      have HS9 := Lib.hid hs9
      clear hs9
      repeat (
        refine wpMix_q (by with_unfolding_all rfl) (by kernel_rfl) ?_
        first
          | go_big_quiet_skip
          | ((with_reducible refine wpQuiet_val (.string ⟨(rowB x).toArray⟩) (by with_unfolding_all rfl) (fun w h => by rw [← HS9.out]; exact exec_cat (.tmp 42) (.tmp 45) _ (by with_unfolding_all rfl) (by with_unfolding_all rfl) (by with_unfolding_all rfl) HSZ.out.2 w) ?_); simp only [Act.put, List.setIfInBounds_toArray, List.set_cons_zero, List.set_cons_succ])
          | (go_big_quiet_step (exact fun _ => rfl))
        refine wpMix_qnil ?_)
      have HAT8 := Lib.hid hS8
      have HB8 := Lib.hid (HB7.out.trans (hb8.mono HB7.out.size))
      refine wpMix_put (.slice (some ⟨w8.heap.size, 0, none⟩) 1 1) (w8.alloc (.cells #[.string ⟨(rowB x).toArray⟩] 9)) (by with_unfolding_all rfl) (by with_unfolding_all rfl) (exec_one_str (.tmp 46) (by with_unfolding_all rfl) (by with_unfolding_all rfl) w8) (HAT8.out.alloc _) ?_
      simp only [Act.put, List.setIfInBounds_toArray, List.set_cons_zero, List.set_cons_succ]
      have HO8 := Lib.hid ((HO.out.below HB8.out).alloc (.cells #[.string ⟨(rowB x).toArray⟩] 9))
      refine wpMix_step (by with_unfolding_all rfl) (by with_unfolding_all rfl) (fun K hK => wp_append_Own (w8.alloc (.cells #[.string ⟨(rowB x).toArray⟩] 9)) (.tmp 35) (.tmp 47) 69 (by with_unfolding_all rfl) w5.heap.size 9 _ _ 1 16 Tryd.underlying69 HIS.out.1 HIS.out.2.1 HIS.out.2.2.1 HIS.out.2.2.2 rfl (by decide) v9 k _ (by with_unfolding_all rfl) HO8.out ⟨w8.heap.size, 0, none⟩ 1 1 [.string ⟨(rowB x).toArray⟩] (by with_unfolding_all rfl) rfl (one_new w8 _ _) (by intro u hu; rw [List.mem_singleton.1 hu]; rfl) (by unfold maxLen; omega) (by omega) (by have := HBW.out.size; have := HB8.out.size; simp; omega) ?_)
      intro v10 w10 hO10 hg10 _
      have hat10 : At w10 g12 38 (encR x) := (HAT8.out.alloc _).grown hg10 (fun e => by
        have h1 := (HO.out.lt _ e.symm).2
        have h2 := HG6.out
        omega)
      refine hK _ _ hat10 ?_
      simp only [Act.put, List.setIfInBounds_toArray, List.set_cons_zero, List.set_cons_succ]
      repeat (
        refine wpMix_q (by with_unfolding_all rfl) (by kernel_rfl) ?_
        first
          | go_big_quiet_skip
          | (go_big_quiet_step (exact fun _ => rfl))
        refine wpMix_qnil ?_)
      refine wpMix_nil ?_
      have HO10 := Lib.hid hO10
      have HB10 := Lib.hid (own_below2 HO8.out ((HBW.out.trans (HB8.out.mono HBW.out.size)).alloc (Nat.le_trans HBW.out.size HB8.out.size) _) (Nat.le_refl _) (by have := HBW.out.size; have := HB8.out.size; simp; omega) hg10)
      clear hO10 hg10 hat10 hK hat0 hb0 hat1 hb1 hat2 hb2 hS8 hb8
      go_wp2_with fail
      go_roundg (NI - (k + 1))
      case measure => omega
      case rel =>
        refine ⟨k + 1, v10, rfl, by go_num, by omega, Nat.le_refl _, ?_, HB10.out⟩
        show Own _ _ _ _ _ _ _
        rw [List.take_succ_eq_append_getElem hkl, List.map_append, List.map_append, ← HX.out]
        exact HO10.out
    · have hkn : k = NI := by omega
      have hltz : ¬ (k : Int) < (NI : Int) := by omega
      have hkt : its.take k = its := List.take_of_length_le (by have := HNI.out; omega)
      obtain ⟨ss, hss⟩ : ∃ ss, ss = its.map fun x => (⟨(rowB x).toArray⟩ : ByteArray) := ⟨_, rfl⟩
      have hO := HO.out
      rw [hkt, ← hss, hkn] at hO
      have hsn : ss.length = NI := by rw [hss, List.length_map]; exact HNI.out.symm
      obtain ⟨A9, c9, rfl, hst⟩ := hO.strs hsn.symm (p := wr.heap.size) (.inr (Nat.le_refl _))
      have hin : StrsIn wr A9 ss := fun h0 => by
        obtain ⟨ad, h1, _, h3, h4⟩ := hst h0
        exact ⟨ad, h1, h3, h4⟩
      have hsm : Small ss := by
        refine ⟨by omega, fun s hs => ?_⟩
        rw [hss] at hs
        obtain ⟨x, _, rfl⟩ := List.mem_map.1 hs
        have := rowB_len x
        rw [str_size]
        omega
      have hfl : (flat ss).length ≤ 73 * its.length := by rw [hss]; exact flat_rows its
      have hrl := sap_row_length ss
      have hdg : (dgV (Sha.sha (Sap.row (lists ss)))) = .agg (u8s (ofR r l).sum).toArray := by
        have : lists ss = (itemsR (bare r) l).map rowB := by rw [hss, HITS.out]; simp [lists]
        rw [this]; rfl
      have hrow := refrowof_any A9 c9 ss
      rw [hsn, hdg] at hrow
      have hne8 : ∀ ad, A9 = some ad → some ad.block ≠ some g8 := fun ad e e2 => by
        have e2 := Option.some.inj e2
        have h1 := (hO.lt ad.block (by rw [e]; rfl)).1
        have h2 := (HAT4.out.below HB5.out HAT4.out.lt).lt
        omega
      have HROWG := Lib.hid (show ∀ W, wr.grownBy W (some g8) → Calls Tryd.prog 61 #[.slice A9 NI c9] W fun e w' => e = .returned (.agg (u8s (ofR r l).sum).toArray) ∧ Below W.heap.size W w' from fun W h => hrow W W (StrsIn.grown hin h hne8) (Below.refl _ _) hsm (by have := HNI.out; omega))
      have HSL := Lib.hid (show (Tryd.prog.info? 24).map (·.size) = some (u8s (ofR r l).sum).length by rw [u8s_length, (ofR r l).hs]; exact infoDg)
      have HCN := Lib.hid (show (NI : Int) = (ofR r l).count by
        show (NI : Int) = ((clampN (itemsR (bare r) l).length : Nat) : Int)
        rw [← HITS.out, ← HNI.out, clampN_eq (by omega)])
      have hat8 : At wr g8 26 (encG (bare r)) := (HAT4.out.below HB5.out HAT4.out.lt).below HBW.out (HAT4.out.below HB5.out HAT4.out.lt).lt
      have hat6 : At wr g6 26 (encG default) := ((HAT2.out.below HB4.out HAT2.out.lt).below HB5.out (HAT2.out.below HB4.out HAT2.out.lt).lt).below HBW.out (Nat.lt_of_lt_of_le (HAT2.out.below HB4.out HAT2.out.lt).lt HB5.out.size)
      have hbr : Below w.heap.size w wr := (HB2.out.trans (HB4.out.mono HB2.out.size)).trans ((HB5.out.mono (Nat.le_trans HB2.out.size HB4.out.size)).trans (HBW.out.mono (Nat.le_trans (Nat.le_trans HB2.out.size HB4.out.size) HB5.out.size)))
      have HA8 := Lib.hid hat8
      have HA6 := Lib.hid hat6
      have HBR := Lib.hid hbr
      have HG68 := Lib.hid (show g6 < g8 ∧ w.heap.size ≤ g6 by have h1 := HG2.out; have h2 := HG3.out; have h3 := HAT2.out.lt; omega)
      have hq8 : g8 < w5.heap.size := (HAT4.out.below HB5.out HAT4.out.lt).lt
      have HQ8 := Lib.hid hq8
      have HIN := Lib.hid hin
      clear hO hne8 hst hrow hdg hat8 hat6 hbr hss hkn hkt hfl hrl hin hq8
      have HQW := Lib.hid (show Behind wr wr from Behind.refl wr)
      have HZE := Lib.hid (show encG z = encG (ofR r l) by rw [HZ.out])
      have hlt68 := HG68.out.1
      go_wp2_with (first
        | (with_reducible refine wpList_store1 rfl 3 (.tmp 51) (.tmp 50) rfl g8 2 .i64 NI rfl rfl (by kernel_rfl) 26 (encG (bare r)) HA8.out (by rw [encG_len]; omega) ?_; intro w12 hat12 hg12 hs12; have HA12 := Lib.hid hat12; have HG12 := Lib.hid hg12; have HS12 := Lib.hid hs12; have HA6a := Lib.hid (HA6.out.grown hg12 (fun e => absurd (Option.some.inj e) (Nat.ne_of_lt HG68.out.1))); have HROW2 := Lib.hid (HROWG.out w12 hg12); clear hat12 hg12 hs12)
        | (go_at_call 61; (with_reducible refine Calls.mono HROW2.out ?_); rintro e w11 ⟨rfl, hb⟩; have HB11 := Lib.hid hb; have HA8b := Lib.hid (HA12.out.below hb HA12.out.lt); have HA6c := Lib.hid (HA6a.out.below hb HA6a.out.lt); clear hb)
        | (with_reducible refine wpList_storePart rfl 24 (.tmp 54) (.tmp 53) rfl g8 3 (u8s (ofR r l).sum) rfl rfl 26 _ HA8b.out (by rw [u8s_length, (ofR r l).hs, List.length_set, encG_len]; omega) HSL.out (u8s_oneCell _) ?_; intro w13 hat13 hg13 _; have HA13 := Lib.hid (at_ofR HCN.out hat13); have HG13 := Lib.hid hg13; have HA6b := Lib.hid (HA6c.out.grown hg13 (fun e => absurd (Option.some.inj e) (Nat.ne_of_lt HG68.out.1))); clear hat13 hg13)
        | (with_reducible refine wpList_loadAll rfl 26 (.tmp 8) rfl g8 rfl _ _ _ HA13.out Tryd.underlying26 rfl (HL3.out _) ?_)
        | (with_reducible refine wpList_storeAll rfl 26 (.tmp 6) (.tmp 55) rfl g6 rfl _ _ (encG (ofR r l)) HA6b.out rfl (HLL.out _ _) (HL3.out _) (encG_one _) ?_; intro w14 hat14 hg14 hs14; have HA14 := Lib.hid hat14; have HG14 := Lib.hid hg14; clear hat14 hg14 hs14))
      refine ret_cellTmp rfl rfl g6 _ _ _ rfl HA14.out Tryd.underlying26 rfl (HL3.out _) _ rfl ⟨by rw [HZE.out]; rfl, ?_⟩
      have hb12 := Below.ofGrown HBR.out HG12.out HBR.out.size (by have := HG68.out; omega)
      have hb11 := hb12.trans (HB11.out.mono hb12.size)
      have hb13 := Below.ofGrown hb11 HG13.out hb11.size (by have := HG68.out; omega)
      exact Below.ofGrown hb13 HG14.out hb13.size HG68.out.2
end Go.Proofs.YtefbllhpibfojaaDoor
