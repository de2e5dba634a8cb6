/- The reference's Merge: what it computes is what the program's Merge does. -/
import Derived.Test.YtlihhnjinakpfaaRankT
namespace Go.Proofs.Ytlihhnjinakpfaa
open Go.RowKit Go.Maps Go.Sort

set_option maxRecDepth 100000 in
set_option maxHeartbeats 2000000 in
theorem refmerge_any {w : World} {u : Nat} {f : Known} (h : RefAt w u 32 f) (hs : Sane f) (A : Option Addr) (c : Nat) (l : List Mem) (hl : MemsIn w A l) (hA : ∀ g off, 0 < l.length → A = some ⟨g, off, none⟩ → g ≠ u) (hN : l.length ≤ 1000000) :
    Calls Try.prog 12 #[.pointer (some ⟨u, 0, none⟩), .slice A l.length c] w fun e w' => ∃ v : Value, e = .returned v ∧ RefAt w' u 32 (merge f l).1 ∧ w.grownBy w' (some u) ∧ Own w' w.heap.size 28 3 v (merge f l).2.length (memsV (merge f l).2) := by
  have HR := Lib.hid h
  have HS := Lib.hid hs
  have HL := Lib.hid hl
  have HA := Lib.hid hA
  have hul := h.lt
  obtain ⟨i0, hi, hz0, hz1, hz2⟩ := info_parts info_mem
  clear h hs hl hA
  go_enter Try.func12, Try.ntmps12
  go_wp2_with fail
  go_loopw [5, 6] (fun v i wr => ∃ k : Nat, k ≤ l.length ∧ i = .int .i64 k ∧ Sane (merge f (l.take k)).1 ∧ RefAt wr u 32 (merge f (l.take k)).1 ∧ w.grownBy wr (some u) ∧ Own wr w.heap.size 28 3 v (merge f (l.take k)).2.length (memsV (merge f (l.take k)).2)) (fun _ i _ => l.length - (RowKit.intOf i).toNat)
  case atStart =>
    refine ⟨0, by omega, rfl, HS.out, HR.out.below ((Below.refl _ _).alloc (Nat.le_refl _) _), grown_alloc (World.grownBy.refl _ _) _, ?_⟩
    exact Own.made (base := w.heap.size) w 28 3 [] 0 0 (Nat.le_refl _) (Nat.le_refl _) (by simp [maxLen]) rfl
  case round =>
    obtain ⟨k, hk, rfl, hs, hv, hg, hO⟩ := hrel
    by_cases hlt : k < l.length
    · obtain ⟨m, hm⟩ : ∃ m, m = l[k] := ⟨_, rfl⟩
      obtain ⟨F, hF⟩ : ∃ F, F = (merge f (l.take k)).1 := ⟨_, rfl⟩
      rw [← hF] at hs hv
      obtain ⟨g, off, rfl, c0, c1, c2⟩ := HL.out.cells (w' := wr) (N := 0) (fun g off e hlt' => hg.block g hlt' (by intro e2; injection e2 with e2; exact HA.out g off (by omega) e e2)) hlt rfl
      rw [← hm] at c0 c1 c2
      have HX := Lib.hid hm
      have HFd := Lib.hid hF
      have HSr := Lib.hid hs
      have HV := Lib.hid hv
      have HG := Lib.hid hg
      have HO := Lib.hid hO
      have hur := hv.lt
      have hsn : merge f (l.take (k + 1)) = (hear F m, (merge f (l.take k)).2 ++ (if takes F m then [m] else [])) := by rw [merge_snoc f l k hlt, ← hF, ← hm]
      have HSN := Lib.hid hsn
      clear hm hF hs hv hg hO hsn
      have HU := Lib.hid Try.underlying28
      have HUi := Lib.hid Try.underlying3
      have HI3 := Lib.hid (show (Try.prog.info? 28).map (·.size) = some (cellsM m).length by kernel_rfl)
      obtain ⟨w3, hw3⟩ : ∃ w3, w3 = wr.alloc (.cells #[.int .i64 m.n, .int .i64 m.i, .int .i64 m.s] 28) := ⟨_, rfl⟩
      have hb3 : Below wr.heap.size wr w3 := by rw [hw3]; exact (Below.refl _ _).alloc (Nat.le_refl _) _
      have hM3 : At w3 wr.heap.size 28 (cellsM m) := by rw [hw3]; exact memAt wr m
      have hs3 : w3.heap.size = wr.heap.size + 1 := by rw [hw3]; simp
      have HW3 := Lib.hid hw3
      have HB3 := Lib.hid hb3
      have HM3 := Lib.hid hM3
      have HV3 := Lib.hid (HV.out.below hb3)
      have HRm := Lib.hid (show ∀ w', Later w3 w' → w'.rangeAt wr.heap.size 0 (cellsM m) from fun w' h => (hM3.below h hM3.lt).range 0 3)
      clear hw3 hb3 hM3
      cases hgd : m.good with
      | false =>
        have HGd := Lib.hid (show ∀ w', Later w3 w' → Calls Try.prog 19 #[memV m] w' fun e w'' => e = .returned (.bool false) ∧ Later w3 w'' from fun w' h => (refgood_at m false hgd _).mono fun e w'' ⟨he, hbx⟩ => ⟨he, Below.trans h (hbx.mono (Below.size h))⟩)
        have HTk := Lib.hid (show takes F m = false by unfold takes; rw [hgd]; rfl)
        clear hgd
        go_wp2_with fail
        rw [← HW3.out]
        refine wp_region_class (Later w3) (by kernel_rfl) (by kernel_rfl) (Below.refl _ _).drew ?_
        iterate 23 (first
          | go_big_quiet_skip
          | (with_reducible refine wpQuiet_loadAll (by with_unfolding_all rfl) 28 _ (by with_unfolding_all rfl) (wr.heap.size) 0 (by with_unfolding_all rfl) (cellsM m) _ (fun w h => HRm.out w h) HU.out (by with_unfolding_all rfl) HI3.out ?_; simp only [Act.put, List.setIfInBounds_toArray, List.set_cons_zero, List.set_cons_succ])
          | (with_reducible refine wpQuiet_call 19 [memV m] (.bool false) (by with_unfolding_all rfl) _ _ (by with_unfolding_all rfl) (by with_unfolding_all rfl) (fun _ => by kernel_rfl) (fun w' h => HGd.out w' h) ?_; simp only [Act.put, List.setIfInBounds_toArray, List.set_cons_zero, List.set_cons_succ])
          | (go_big_quiet_step (exact fun _ => rfl)))
        with_reducible refine wpQuiet_nil ?_
        intro w4 h4
        have HB4 := Lib.hid (HB3.out.trans (Below.mono h4 HB3.out.size))
        clear h4
        go_wp2_with fail
        go_roundw
        case rel =>
          refine ⟨k + 1, by omega, by go_num, ?_, ?_, grown_below HG.out HB4.out, ?_⟩
          · rw [HSN.out]; exact sane_hear HSr.out m
          · rw [HSN.out]; simp only [hear, HTk.out, Bool.false_eq_true, if_false]; exact HV.out.below HB4.out
          · rw [HSN.out]; simp only [HTk.out, Bool.false_eq_true, if_false, List.append_nil]; exact HO.out.below HB4.out
        case measure => simp [RowKit.intOf]; omega
      | true =>
        have hg6 := (Mem.good_iff m).1 hgd
        have j0 : 0 ≤ m.n := by omega
        have j1 : m.n < 7 := by omega
        have j2 : m.n.toNat < 7 := by omega
        have ej : (m.n.toNat : Int) = m.n := by omega
        obtain ⟨was, kn, hfd, hkn, hwas⟩ : ∃ was kn, found F m.n = .tuple #[memV was, .bool kn] ∧ (F m.n).isSome = kn ∧ (F m.n).getD Mem.zero = was := by
          unfold found
          cases F m.n with
          | none => exact ⟨_, _, rfl, rfl, rfl⟩
          | some x => exact ⟨_, _, rfl, rfl, rfl⟩
        have htk : takes F m = (!kn || m.above was) := by rw [takes_eq hfd, hgd]; rfl
        obtain ⟨ab, hab⟩ : ∃ ab, m.above was = ab := ⟨_, rfl⟩
        rw [hab] at htk
        have HTk := Lib.hid htk
        have HGd := Lib.hid (show ∀ w', Later w3 w' → Calls Try.prog 19 #[memV m] w' fun e w'' => e = .returned (.bool true) ∧ Later w3 w'' from fun w' h => (refgood_at m true hgd _).mono fun e w'' ⟨he, hbx⟩ => ⟨he, Below.trans h (hbx.mono (Below.size h))⟩)
        have HAb := Lib.hid (show ∀ w', Later w3 w' → Calls Try.prog 21 #[memV m, memV was] w' fun e w'' => e = .returned (.bool ab) ∧ Later w3 w'' from fun w' h => (refabove_any m was _).mono fun e w'' ⟨he, hbx⟩ => ⟨by rw [he, hab], Below.trans h (hbx.mono (Below.size h))⟩)
        have HRn := Lib.hid (show ∀ w', Later w3 w' → w'.cell? ⟨wr.heap.size, 0, none⟩ = some (.int .i64 m.n) from fun w' h => HRm.out w' h 0 _ rfl)
        have HRw := Lib.hid (show ∀ w', Later w3 w' → w'.rangeAt u (m.n.toNat * 3) (cellsM was) from fun w' h j v hv => by
          refine (HV3.out.below h).cellM j2 ?_
          rw [show known F m.n.toNat = was by unfold known; rw [ej, hwas]]
          exact hv)
        have HRk := Lib.hid (show ∀ w', Later w3 w' → w'.cell? ⟨u, 21 + m.n.toNat, none⟩ = some (.bool kn) from fun w' h => by
          have := (HV3.out.below h).cellK j2
          rw [ej, hkn] at this
          exact this)
        clear hgd hg6 hfd hkn hwas htk hab ej
        have HI4 := Lib.hid (show (Try.prog.info? 28).map (·.size) = some (cellsM was).length by kernel_rfl)
        have HUb := Lib.hid Try.underlying4
        cases kn
        · have HTk' := Lib.hid (show takes F m = true from HTk.out)
          go_wp2_with fail
          rw [← HW3.out]
          refine wp_region_class (Later w3) (by kernel_rfl) (by kernel_rfl) (Below.refl _ _).drew ?_
          iterate 23 (first
            | go_big_quiet_skip
            | (with_reducible refine wpQuiet_loadAll (by with_unfolding_all rfl) 28 _ (by with_unfolding_all rfl) (wr.heap.size) 0 (by with_unfolding_all rfl) (cellsM m) _ (fun w h => HRm.out w h) HU.out (by with_unfolding_all rfl) HI3.out ?_; simp only [Act.put, List.setIfInBounds_toArray, List.set_cons_zero, List.set_cons_succ])
            | (with_reducible refine wpQuiet_load1 (.int .i64 m.n) (by with_unfolding_all rfl) 3 _ (by with_unfolding_all rfl) .i64 HUi.out (wr.heap.size) 0 (by with_unfolding_all rfl) (fun w h => HRn.out w h) ?_; simp only [Act.put, List.setIfInBounds_toArray, List.set_cons_zero, List.set_cons_succ])
            | (with_reducible refine wpQuiet_loadB (.bool false) (by with_unfolding_all rfl) 4 _ (by with_unfolding_all rfl) HUb.out u (21 + m.n.toNat) (by with_unfolding_all rfl) (fun w h => HRk.out w h) ?_; simp only [Act.put, List.setIfInBounds_toArray, List.set_cons_zero, List.set_cons_succ])
            | (with_reducible refine wpQuiet_call 19 [memV m] (.bool true) (by with_unfolding_all rfl) _ _ (by with_unfolding_all rfl) (by with_unfolding_all rfl) (fun _ => by kernel_rfl) (fun w' h => HGd.out w' h) ?_; simp only [Act.put, List.setIfInBounds_toArray, List.set_cons_zero, List.set_cons_succ])
            | (go_big_quiet_step (exact fun _ => rfl)))
          with_reducible refine wpQuiet_nil ?_
          intro w4 h4
          have hb4 : Below wr.heap.size wr w4 := HB3.out.trans (Below.mono h4 HB3.out.size)
          have hM4 := HM3.out.below h4 HM3.out.lt
          have HB4 := Lib.hid hb4
          have HM4 := Lib.hid hM4
          have m0 := hM4.cell' (i := 0) (v := .int .i64 m.n) rfl
          have m1 := hM4.cell' (i := 1) (v := .int .i64 m.i) rfl
          have m2 := hM4.cell' (i := 2) (v := .int .i64 m.s) rfl
          have hs4 : w3.heap.size ≤ w4.heap.size := Below.size h4
          clear h4 hb4 hM4
          go_wp2_with fail
          refine wp_region_then (fun w' => ∃ n, w' = w4.drewN n) 7 (by kernel_rfl) (by kernel_rfl) (by kernel_rfl) (by kernel_rfl) (by decide) ⟨1, rfl⟩ ?_
          simp only [List.take_succ_cons, List.take_zero, List.drop_succ_cons, List.drop_zero]
          repeat (go_big_quiet_step (fail))
          refine wpQuiet_nil ?_
          intro _ hw'
          obtain ⟨nq, rfl⟩ := hw'
          have hV5 : RefAt (w4.drewN nq) u 32 F := HV.out.below (below_drewN HB4.out _)
          refine wpList_store_mid rfl 28 (.tmp 48) (.tmp 45) rfl u (m.n.toNat * 3) (cellsM m).toArray rfl rfl (hV5.there j2) (by kernel_rfl) (all_oneCell_toArray (cellsM_oneCell m)) ?_
          have hMid : RefMid ((w4.drewN nq).setCells u (m.n.toNat * 3) (cellsM m).toArray.toList) u 32 F m m.n.toNat := hV5.mid m j2
          have hG5 : wr.grownBy ((w4.drewN nq).setCells u (m.n.toNat * 3) (cellsM m).toArray.toList) (some u) := grown_setCells u _ _ _ _ (grown_below (World.grownBy.refl _ _) (below_drewN HB4.out _))
          have hm5' : ((w4.drewN nq).setCells u (m.n.toNat * 3) (cellsM m).toArray.toList).heap[wr.heap.size]? = w4.heap[wr.heap.size]? :=
            (grown_setCells u _ _ (w4.drewN nq) (w4.drewN nq) (World.grownBy.refl _ _)).block _ (show wr.heap.size < (w4.drewN nq).heap.size by have := HM4.out.lt; have h2 := (below_drewN (Below.refl w4.heap.size w4) nq).size; omega) (by intro e; injection e with e; omega)
          generalize (w4.drewN nq).setCells u (m.n.toNat * 3) (cellsM m).toArray.toList = w5 at hMid hG5 hm5' ⊢
          have hm5 : At w5 wr.heap.size 28 (cellsM m) := by
            have h := HM4.out
            exact hm5'.trans h
          have hs5 : wr.heap.size + 1 ≤ w5.heap.size := hm5.lt
          have HMid := Lib.hid hMid
          have HG5 := Lib.hid hG5
          have HM5 := Lib.hid hm5
          have m0 := hm5.cell' (i := 0) (v := .int .i64 m.n) rfl
          have m1 := hm5.cell' (i := 1) (v := .int .i64 m.i) rfl
          have m2 := hm5.cell' (i := 2) (v := .int .i64 m.s) rfl
          clear hMid hG5 hm5 hm5' hV5 HM4
          simp only [Act.put]
          refine wpList_nil ?_
          go_wp2_with fail
          refine wp_region_then (fun w' => ∃ n, w' = w5.drewN n) 6 (by kernel_rfl) (by kernel_rfl) (by kernel_rfl) (by kernel_rfl) (by decide) ⟨1, rfl⟩ ?_
          simp only [List.take_succ_cons, List.take_zero, List.drop_succ_cons, List.drop_zero]
          repeat (go_big_quiet_step (fail))
          refine wpQuiet_nil ?_
          intro _ hw'
          obtain ⟨nq2, rfl⟩ := hw'
          have hMid6 : RefMid (w5.drewN nq2) u 32 F m m.n.toNat := HMid.out.below (below_drewN (Below.refl _ _) _)
          refine wpList_storeB rfl 4 (.tmp 54) (.const (.bool true)) rfl u (21 + m.n.toNat) true rfl rfl (by kernel_rfl) (hMid6.cell j2) ?_
          have hV6 : RefAt ((w5.drewN nq2).setCell ⟨u, 21 + m.n.toNat, none⟩ (.bool true)) u 32 (upd F m) := hMid6.put j2 (by omega)
          have hG6 : wr.grownBy ((w5.drewN nq2).setCell ⟨u, 21 + m.n.toNat, none⟩ (.bool true)) (some u) := grown_setCell (grown_below HG5.out (below_drewN (Below.refl _ _) _)) (.inl rfl) _
          have hm6 : At ((w5.drewN nq2).setCell ⟨u, 21 + m.n.toNat, none⟩ (.bool true)) wr.heap.size 28 (cellsM m) := At.far (HM5.out.below (below_drewN (Below.refl _ _) _) HM5.out.lt) (show u ≠ wr.heap.size by omega) _
          generalize (w5.drewN nq2).setCell ⟨u, 21 + m.n.toNat, none⟩ (.bool true) = w6 at hV6 hG6 hm6 ⊢
          have HV6 := Lib.hid hV6
          have HG6 := Lib.hid hG6
          have hO6 := HO.out.grown hG6 (by
            cases hv : u5.ownBlock with
            | none => exact .inl rfl
            | some q => exact .inr (by intro e; injection e with e; have := (HO.out.lt q hv).1; omega))
          have HO6 := Lib.hid hO6
          clear m0 m1 m2
          have m0 := hm6.cell' (i := 0) (v := .int .i64 m.n) rfl
          have m1 := hm6.cell' (i := 1) (v := .int .i64 m.i) rfl
          have m2 := hm6.cell' (i := 2) (v := .int .i64 m.s) rfl
          clear hV6 hG6 hm6 hMid6 HMid HM5 HG5 hO6
          simp only [Act.put]
          refine wpList_nil ?_
          have hml := merge_len (l.take k) f
          rw [List.length_take] at hml
          have HG7 := Lib.hid (grown_trans HG.out HG6.out)
          have hw8 : w.heap.size ≤ w6.heap.size := HG7.out.size
          go_wp2_with (at_builtin; (refine wpList_append_Own _ rfl (.tmp 55) (.tmp 57) 33 rfl w.heap.size 28 i0 _ 3 24 Try.underlying33 hi hz0 hz1 hz2 rfl (by omega) _ _ _ rfl (HO6.out.alloc _) ⟨_, 0, none⟩ 1 1 (cellsM m) rfl rfl (three_new _ _) (cellsM_oneCell _) ?_ ?_ ?_ ?_); (focus (unfold maxLen; omega)); (focus omega); (focus (simp; omega)); intro v9 w9 hO9 hg9 hat9)
          go_roundw
          case rel =>
            have ht : takes F m = true := HTk.out
            have hrow : ∀ q, u5.ownBlock = some q → w.heap.size ≤ q := fun q hq => (HO6.out.lt q hq).1
            refine ⟨k + 1, by omega, by go_num, ?_, ?_, grown_own (grown_alloc HG7.out _) hg9 hrow, ?_⟩
            · rw [HSN.out]; exact sane_hear HSr.out m
            · rw [HSN.out]
              simp only [hear, ht, if_true]
              exact (HV6.out.below ((Below.refl _ _).alloc (Nat.le_refl _) _)).grown hg9 (by intro e; have := hrow u e.symm; omega)
            · rw [HSN.out]
              simp only [ht, if_true, List.length_append, List.length_cons, List.length_nil]
              have e : memsV ((merge f (l.take k)).2 ++ [m]) = memsV (merge f (l.take k)).2 ++ cellsM m := by simp [memsV]
              rw [e]
              exact hO9
          case measure => simp [RowKit.intOf]; omega
        · cases ab
          · go_wp2_with fail
            rw [← HW3.out]
            refine wp_region_class (Later w3) (by kernel_rfl) (by kernel_rfl) (Below.refl _ _).drew ?_
            iterate 23 (first
              | go_big_quiet_skip
              | (with_reducible refine wpQuiet_loadAll (by with_unfolding_all rfl) 28 _ (by with_unfolding_all rfl) (wr.heap.size) 0 (by with_unfolding_all rfl) (cellsM m) _ (fun w h => HRm.out w h) HU.out (by with_unfolding_all rfl) HI3.out ?_; simp only [Act.put, List.setIfInBounds_toArray, List.set_cons_zero, List.set_cons_succ])
              | (with_reducible refine wpQuiet_load1 (.int .i64 m.n) (by with_unfolding_all rfl) 3 _ (by with_unfolding_all rfl) .i64 HUi.out (wr.heap.size) 0 (by with_unfolding_all rfl) (fun w h => HRn.out w h) ?_; simp only [Act.put, List.setIfInBounds_toArray, List.set_cons_zero, List.set_cons_succ])
              | (with_reducible refine wpQuiet_loadB (.bool true) (by with_unfolding_all rfl) 4 _ (by with_unfolding_all rfl) HUb.out u (21 + m.n.toNat) (by with_unfolding_all rfl) (fun w h => HRk.out w h) ?_; simp only [Act.put, List.setIfInBounds_toArray, List.set_cons_zero, List.set_cons_succ])
              | (with_reducible refine wpQuiet_call 19 [memV m] (.bool true) (by with_unfolding_all rfl) _ _ (by with_unfolding_all rfl) (by with_unfolding_all rfl) (fun _ => by kernel_rfl) (fun w' h => HGd.out w' h) ?_; simp only [Act.put, List.setIfInBounds_toArray, List.set_cons_zero, List.set_cons_succ])
              | (with_reducible refine wpQuiet_call 21 [memV m, memV was] (.bool false) (by with_unfolding_all rfl) _ _ (by with_unfolding_all rfl) (by with_unfolding_all rfl) (fun _ => by kernel_rfl) (fun w' h => HAb.out w' h) ?_; simp only [Act.put, List.setIfInBounds_toArray, List.set_cons_zero, List.set_cons_succ])
              | (with_reducible refine wpQuiet_loadAll (by with_unfolding_all rfl) 28 _ (by with_unfolding_all rfl) u (m.n.toNat * 3) (by with_unfolding_all rfl) (cellsM was) _ (fun w h => HRw.out w h) HU.out (by with_unfolding_all rfl) HI4.out ?_; simp only [Act.put, List.setIfInBounds_toArray, List.set_cons_zero, List.set_cons_succ])
              | (go_big_quiet_step (exact fun _ => rfl)))
            with_reducible refine wpQuiet_nil ?_
            intro w4 h4
            have hb4 : Below wr.heap.size wr w4 := HB3.out.trans (Below.mono h4 HB3.out.size)
            have hM4 := HM3.out.below h4 HM3.out.lt
            have HB4 := Lib.hid hb4
            have HM4 := Lib.hid hM4
            have m0 := hM4.cell' (i := 0) (v := .int .i64 m.n) rfl
            have m1 := hM4.cell' (i := 1) (v := .int .i64 m.i) rfl
            have m2 := hM4.cell' (i := 2) (v := .int .i64 m.s) rfl
            have hs4 : w3.heap.size ≤ w4.heap.size := Below.size h4
            clear h4 hb4 hM4
            go_wp2_with fail
            go_roundw
            case rel =>
              refine ⟨k + 1, by omega, by go_num, ?_, ?_, grown_below HG.out HB4.out, ?_⟩
              · rw [HSN.out]; exact sane_hear HSr.out m
              · rw [HSN.out]; simp only [hear, HTk.out, Bool.not_true, Bool.or_false, Bool.false_eq_true, if_false]; exact HV.out.below HB4.out
              · rw [HSN.out]; simp only [HTk.out, Bool.not_true, Bool.or_false, Bool.false_eq_true, if_false, List.append_nil]; exact HO.out.below HB4.out
            case measure => simp [RowKit.intOf]; omega
          · go_wp2_with fail
            rw [← HW3.out]
            refine wp_region_class (Later w3) (by kernel_rfl) (by kernel_rfl) (Below.refl _ _).drew ?_
            iterate 23 (first
              | go_big_quiet_skip
              | (with_reducible refine wpQuiet_loadAll (by with_unfolding_all rfl) 28 _ (by with_unfolding_all rfl) (wr.heap.size) 0 (by with_unfolding_all rfl) (cellsM m) _ (fun w h => HRm.out w h) HU.out (by with_unfolding_all rfl) HI3.out ?_; simp only [Act.put, List.setIfInBounds_toArray, List.set_cons_zero, List.set_cons_succ])
              | (with_reducible refine wpQuiet_load1 (.int .i64 m.n) (by with_unfolding_all rfl) 3 _ (by with_unfolding_all rfl) .i64 HUi.out (wr.heap.size) 0 (by with_unfolding_all rfl) (fun w h => HRn.out w h) ?_; simp only [Act.put, List.setIfInBounds_toArray, List.set_cons_zero, List.set_cons_succ])
              | (with_reducible refine wpQuiet_loadB (.bool true) (by with_unfolding_all rfl) 4 _ (by with_unfolding_all rfl) HUb.out u (21 + m.n.toNat) (by with_unfolding_all rfl) (fun w h => HRk.out w h) ?_; simp only [Act.put, List.setIfInBounds_toArray, List.set_cons_zero, List.set_cons_succ])
              | (with_reducible refine wpQuiet_call 19 [memV m] (.bool true) (by with_unfolding_all rfl) _ _ (by with_unfolding_all rfl) (by with_unfolding_all rfl) (fun _ => by kernel_rfl) (fun w' h => HGd.out w' h) ?_; simp only [Act.put, List.setIfInBounds_toArray, List.set_cons_zero, List.set_cons_succ])
              | (with_reducible refine wpQuiet_call 21 [memV m, memV was] (.bool true) (by with_unfolding_all rfl) _ _ (by with_unfolding_all rfl) (by with_unfolding_all rfl) (fun _ => by kernel_rfl) (fun w' h => HAb.out w' h) ?_; simp only [Act.put, List.setIfInBounds_toArray, List.set_cons_zero, List.set_cons_succ])
              | (with_reducible refine wpQuiet_loadAll (by with_unfolding_all rfl) 28 _ (by with_unfolding_all rfl) u (m.n.toNat * 3) (by with_unfolding_all rfl) (cellsM was) _ (fun w h => HRw.out w h) HU.out (by with_unfolding_all rfl) HI4.out ?_; simp only [Act.put, List.setIfInBounds_toArray, List.set_cons_zero, List.set_cons_succ])
              | (go_big_quiet_step (exact fun _ => rfl)))
            with_reducible refine wpQuiet_nil ?_
            intro w4 h4
            have hb4 : Below wr.heap.size wr w4 := HB3.out.trans (Below.mono h4 HB3.out.size)
            have hM4 := HM3.out.below h4 HM3.out.lt
            have HB4 := Lib.hid hb4
            have HM4 := Lib.hid hM4
            have m0 := hM4.cell' (i := 0) (v := .int .i64 m.n) rfl
            have m1 := hM4.cell' (i := 1) (v := .int .i64 m.i) rfl
            have m2 := hM4.cell' (i := 2) (v := .int .i64 m.s) rfl
            have hs4 : w3.heap.size ≤ w4.heap.size := Below.size h4
            clear h4 hb4 hM4
            go_wp2_with fail
            refine wp_region_then (fun w' => ∃ n, w' = w4.drewN n) 7 (by kernel_rfl) (by kernel_rfl) (by kernel_rfl) (by kernel_rfl) (by decide) ⟨1, rfl⟩ ?_
            simp only [List.take_succ_cons, List.take_zero, List.drop_succ_cons, List.drop_zero]
            repeat (go_big_quiet_step (fail))
            refine wpQuiet_nil ?_
            intro _ hw'
            obtain ⟨nq, rfl⟩ := hw'
            have hV5 : RefAt (w4.drewN nq) u 32 F := HV.out.below (below_drewN HB4.out _)
            refine wpList_store_mid rfl 28 (.tmp 48) (.tmp 45) rfl u (m.n.toNat * 3) (cellsM m).toArray rfl rfl (hV5.there j2) (by kernel_rfl) (all_oneCell_toArray (cellsM_oneCell m)) ?_
            have hMid : RefMid ((w4.drewN nq).setCells u (m.n.toNat * 3) (cellsM m).toArray.toList) u 32 F m m.n.toNat := hV5.mid m j2
            have hG5 : wr.grownBy ((w4.drewN nq).setCells u (m.n.toNat * 3) (cellsM m).toArray.toList) (some u) := grown_setCells u _ _ _ _ (grown_below (World.grownBy.refl _ _) (below_drewN HB4.out _))
            have hm5' : ((w4.drewN nq).setCells u (m.n.toNat * 3) (cellsM m).toArray.toList).heap[wr.heap.size]? = w4.heap[wr.heap.size]? :=
              (grown_setCells u _ _ (w4.drewN nq) (w4.drewN nq) (World.grownBy.refl _ _)).block _ (show wr.heap.size < (w4.drewN nq).heap.size by have := HM4.out.lt; have h2 := (below_drewN (Below.refl w4.heap.size w4) nq).size; omega) (by intro e; injection e with e; omega)
            generalize (w4.drewN nq).setCells u (m.n.toNat * 3) (cellsM m).toArray.toList = w5 at hMid hG5 hm5' ⊢
            have hm5 : At w5 wr.heap.size 28 (cellsM m) := by
              have h := HM4.out
              exact hm5'.trans h
            have hs5 : wr.heap.size + 1 ≤ w5.heap.size := hm5.lt
            have HMid := Lib.hid hMid
            have HG5 := Lib.hid hG5
            have HM5 := Lib.hid hm5
            have m0 := hm5.cell' (i := 0) (v := .int .i64 m.n) rfl
            have m1 := hm5.cell' (i := 1) (v := .int .i64 m.i) rfl
            have m2 := hm5.cell' (i := 2) (v := .int .i64 m.s) rfl
            clear hMid hG5 hm5 hm5' hV5 HM4
            simp only [Act.put]
            refine wpList_nil ?_
            go_wp2_with fail
            refine wp_region_then (fun w' => ∃ n, w' = w5.drewN n) 6 (by kernel_rfl) (by kernel_rfl) (by kernel_rfl) (by kernel_rfl) (by decide) ⟨1, rfl⟩ ?_
            simp only [List.take_succ_cons, List.take_zero, List.drop_succ_cons, List.drop_zero]
            repeat (go_big_quiet_step (fail))
            refine wpQuiet_nil ?_
            intro _ hw'
            obtain ⟨nq2, rfl⟩ := hw'
            have hMid6 : RefMid (w5.drewN nq2) u 32 F m m.n.toNat := HMid.out.below (below_drewN (Below.refl _ _) _)
            refine wpList_storeB rfl 4 (.tmp 54) (.const (.bool true)) rfl u (21 + m.n.toNat) true rfl rfl (by kernel_rfl) (hMid6.cell j2) ?_
            have hV6 : RefAt ((w5.drewN nq2).setCell ⟨u, 21 + m.n.toNat, none⟩ (.bool true)) u 32 (upd F m) := hMid6.put j2 (by omega)
            have hG6 : wr.grownBy ((w5.drewN nq2).setCell ⟨u, 21 + m.n.toNat, none⟩ (.bool true)) (some u) := grown_setCell (grown_below HG5.out (below_drewN (Below.refl _ _) _)) (.inl rfl) _
            have hm6 : At ((w5.drewN nq2).setCell ⟨u, 21 + m.n.toNat, none⟩ (.bool true)) wr.heap.size 28 (cellsM m) := At.far (HM5.out.below (below_drewN (Below.refl _ _) _) HM5.out.lt) (show u ≠ wr.heap.size by omega) _
            generalize (w5.drewN nq2).setCell ⟨u, 21 + m.n.toNat, none⟩ (.bool true) = w6 at hV6 hG6 hm6 ⊢
            have HV6 := Lib.hid hV6
            have HG6 := Lib.hid hG6
            have hO6 := HO.out.grown hG6 (by
              cases hv : u5.ownBlock with
              | none => exact .inl rfl
              | some q => exact .inr (by intro e; injection e with e; have := (HO.out.lt q hv).1; omega))
            have HO6 := Lib.hid hO6
            clear m0 m1 m2
            have m0 := hm6.cell' (i := 0) (v := .int .i64 m.n) rfl
            have m1 := hm6.cell' (i := 1) (v := .int .i64 m.i) rfl
            have m2 := hm6.cell' (i := 2) (v := .int .i64 m.s) rfl
            clear hV6 hG6 hm6 hMid6 HMid HM5 HG5 hO6
            simp only [Act.put]
            refine wpList_nil ?_
            have hml := merge_len (l.take k) f
            rw [List.length_take] at hml
            have HG7 := Lib.hid (grown_trans HG.out HG6.out)
            have hw8 : w.heap.size ≤ w6.heap.size := HG7.out.size
            go_wp2_with (at_builtin; (refine wpList_append_Own _ rfl (.tmp 55) (.tmp 57) 33 rfl w.heap.size 28 i0 _ 3 24 Try.underlying33 hi hz0 hz1 hz2 rfl (by omega) _ _ _ rfl (HO6.out.alloc _) ⟨_, 0, none⟩ 1 1 (cellsM m) rfl rfl (three_new _ _) (cellsM_oneCell _) ?_ ?_ ?_ ?_); (focus (unfold maxLen; omega)); (focus omega); (focus (simp; omega)); intro v9 w9 hO9 hg9 hat9)
            go_roundw
            case rel =>
              have ht : takes F m = true := HTk.out
              have hrow : ∀ q, u5.ownBlock = some q → w.heap.size ≤ q := fun q hq => (HO6.out.lt q hq).1
              refine ⟨k + 1, by omega, by go_num, ?_, ?_, grown_own (grown_alloc HG7.out _) hg9 hrow, ?_⟩
              · rw [HSN.out]; exact sane_hear HSr.out m
              · rw [HSN.out]
                simp only [hear, ht, if_true]
                exact (HV6.out.below ((Below.refl _ _).alloc (Nat.le_refl _) _)).grown hg9 (by intro e; have := hrow u e.symm; omega)
              · rw [HSN.out]
                simp only [ht, if_true, List.length_append, List.length_cons, List.length_nil]
                have e : memsV ((merge f (l.take k)).2 ++ [m]) = memsV (merge f (l.take k)).2 ++ cellsM m := by simp [memsV]
                rw [e]
                exact hO9
            case measure => simp [RowKit.intOf]; omega
    · have hkl : k = l.length := by omega
      have HVe := Lib.hid hv
      have HGe := Lib.hid hg
      have HOe := Lib.hid hO
      have HKL := Lib.hid hkl
      clear hs hv hg hO hkl
      go_wp2_with fail
      go_ret
      refine ⟨_, rfl, ?_, HGe.out, ?_⟩
      · have h := HVe.out
        rw [HKL.out, List.take_length] at h
        exact h
      · have h := HOe.out
        rw [HKL.out, List.take_length] at h
        exact h
end Go.Proofs.Ytlihhnjinakpfaa
