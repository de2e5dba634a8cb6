/- Layer 11: the reference's Take. -/
import Derived.Test.YtepnepgjlnoabaaHumX2
import Derived.Test.YtepnepgjlnoabaaHumXP
namespace Go.Proofs.Ytepnepgjlnoabaa
open Go.Proofs Stab Go.Shelf Go.RowKit Go.Lib Go.Sort Go.Maps

theorem run_gtrI1 (a b : Int) (h : b < a) (w : World) : (binOp .gtr 3 (.int .i64 a) (.int .i64 b)).run Try.prog w = .ok (.bool true) w := by
  go_simp
theorem run_gtrI0 (a b : Int) (h : a ≤ b) (w : World) : (binOp .gtr 3 (.int .i64 a) (.int .i64 b)).run Try.prog w = .ok (.bool false) w := by
  go_simp
theorem run_eqlI1 (a : Int) (w : World) : (binOp .eql 3 (.int .i64 a) (.int .i64 a)).run Try.prog w = .ok (.bool true) w := by
  go_simp
theorem run_eqlI0 (a b : Int) (h : a ≠ b) (w : World) : (binOp .eql 3 (.int .i64 a) (.int .i64 b)).run Try.prog w = .ok (.bool false) w := by
  go_simp
theorem run_guardI (w : World) (op : BinOp) (x y : Operand) (a b : Int) : (eqGuard op 3 x y (.int .i64 a) (.int .i64 b)).run Try.prog w = .ok () w := by
  unfold eqGuard
  go_simp
theorem wpList_storeI {P : Program} {ops : Array Oper} {rest : List Oper} {o : Oper} {a : Act} {w : World} {Q : Exit → Act → World → Prop} (hgd : o.guard = none) (ty : TypeId) (x y : Operand) (ho : o.op = .store ty x y) (b off : Nat) (k : IntKind) (n : Int)
    (hx : a.eval x = .pointer (some ⟨b, off, none⟩)) (hy : a.eval y = .int k n) (hi : (P.info? ty).map (·.size) = some 1) (hc : (w.cell? ⟨b, off, none⟩).isSome = true ∧ w.frozen? ⟨b, off, none⟩ = false)
    (h : wpList P ops Q rest (a.put o.dst undef) (w.setCell ⟨b, off, none⟩ (.int k n))) : wpList P ops Q (o :: rest) a w :=
  wpList_plain hgd fun _ hK => by
    unfold Oper.wp execOp
    have hr : (Instr.storeAt ty (.pointer (some ⟨b, off, none⟩)) (.int k n)).run P w = .ok () (w.setCell ⟨b, off, none⟩ (.int k n)) := by
      cases hq : P.info? ty with
      | none => simp [hq] at hi
      | some i =>
        have hs : i.size = 1 := by simpa [hq] using hi
        obtain ⟨v0, hv0⟩ := Option.isSome_iff_exists.1 hc.1
        simp [Instr.storeAt, Instr.sureAddr, storeVar, sizeOf, typeInfo, hq, hs, hv0, hc.2, Value.cells, storeCells, go_sem]
    simp only [ho, hx, hy, Sem.run_bind, Sem.run_pure, hr, Result.andThen_ok]
    exact hK _ _ h
theorem TblAt.set1 {w : World} {b : Nat} {T : TypeId} {hd : List Value} {s : Nat} {c : Nat → List Value} (h : TblAt w b T hd s c) {n : Nat} (hn : n < 7) {j : Nat} (hj : j < s) (v : Value) : TblAt (w.setCell ⟨b, hd.length + n * s + j, none⟩ v) b T hd s (fun i => if i = n then (c n).set j v else c i) := by
  obtain ⟨cs, h1, h2, h3, h4, h5⟩ := h
  have hle : n * s + s ≤ 7 * s := by rw [← Nat.succ_mul]; exact Nat.mul_le_mul_right _ hn
  refine ⟨_, h1.set _ v, by rw [List.length_set]; exact h2, fun i => ?_, fun k u hu => ?_, fun i hi k u hu => ?_⟩
  · show (if i = n then (c n).set j v else c i).length = s
    split
    · rw [List.length_set]; exact h3 n
    · exact h3 i
  · have hk := (List.getElem?_eq_some_iff.1 hu).1
    rw [List.getElem?_set_ne (by omega)]
    exact h4 k u hu
  · by_cases hin : i = n
    · subst hin
      change (if i = i then (c i).set j v else c i)[k]? = some u at hu
      rw [if_pos rfl] at hu
      have hk := (List.getElem?_eq_some_iff.1 hu).1
      rw [List.length_set, h3] at hk
      by_cases hkj : k = j
      · subst hkj
        rw [List.getElem?_set_self (by rw [h3]; exact hj)] at hu
        rw [List.getElem?_set_self (by omega)]
        exact hu
      · rw [List.getElem?_set_ne (Ne.symm hkj)] at hu
        rw [List.getElem?_set_ne (by omega)]
        exact h5 i hi k u hu
    · change (if i = n then (c n).set j v else c i)[k]? = some u at hu
      rw [if_neg hin] at hu
      have hk := (List.getElem?_eq_some_iff.1 hu).1
      rw [h3] at hk
      have hcmp : i * s + s ≤ n * s ∨ n * s + s ≤ i * s := by
        rcases Nat.lt_or_gt_of_ne hin with hlt | hlt
        · exact .inl (by rw [← Nat.succ_mul]; exact Nat.mul_le_mul_right _ hlt)
        · exact .inr (by rw [← Nat.succ_mul]; exact Nat.mul_le_mul_right _ hlt)
      rw [List.getElem?_set_ne (by omega)]
      exact h5 i hi k u hu
def toldB (f : Hm.St) (k n : Nat) : List Value := [.bool (Hm.toldN f k (n : Int))]
/-- what holds while the reference takes -/
structure RTake (w : World) (f : Hm.St) (k g6 : Nat) (v : Value) (wr : World) : Prop where
  own : Own wr w.heap.size 41 3 v k (memsV (((Hm.sorted f).take k).map (·.m)))
  told : TblAt wr g6 43 [] 1 (toldB f k)
  below : Below w.heap.size w wr
  ne : v.ownBlock ≠ some g6
theorem RTake.up {w wr w' : World} {f : Hm.St} {k g6 : Nat} {v : Value} (h : RTake w f k g6 v wr) (hb : Below wr.heap.size wr w') : RTake w f k g6 v w' :=
  ⟨h.own.below hb, h.told.below hb, h.below.trans (hb.mono h.below.size), h.ne⟩
/-- the reference's table, told down to node i -/
def RD (R : Nat → Rum) (f : Hm.St) (k i n : Nat) : Rum := if 1 ≤ n ∧ n < i ∧ Hm.toldN f k (n : Int) = true then ⟨(R n).m, (R n).k - 1⟩ else R n
theorem RD_told {R : Nat → Rum} {f : Hm.St} {k i n : Nat} (h : 1 ≤ n ∧ n < i ∧ Hm.toldN f k (n : Int) = true) : RD R f k i n = ⟨(R n).m, (R n).k - 1⟩ := if_pos h
theorem RD_not {R : Nat → Rum} {f : Hm.St} {k i n : Nat} (h : ¬ (1 ≤ n ∧ n < i ∧ Hm.toldN f k (n : Int) = true)) : RD R f k i n = R n := if_neg h
theorem RD_start (R : Nat → Rum) (f : Hm.St) (k n : Nat) : RD R f k 1 n = R n := by
  unfold RD
  rw [if_neg (by omega)]
theorem RD_at (R : Nat → Rum) (f : Hm.St) (k i : Nat) : RD R f k i i = R i := by
  unfold RD
  rw [if_neg (by omega)]
theorem RD_skip (R : Nat → Rum) (f : Hm.St) (k i n : Nat) (h : Hm.toldN f k (i : Int) = false) : RD R f k (i + 1) n = RD R f k i n := by
  unfold RD
  by_cases e : n = i
  · subst e
    rw [if_neg (by rw [h]; simp), if_neg (by rw [h]; simp)]
  · congr 1
    refine propext ⟨fun ⟨a, b, c⟩ => ⟨a, by omega, c⟩, fun ⟨a, b, c⟩ => ⟨a, by omega, c⟩⟩
theorem RD_next (R : Nat → Rum) (f : Hm.St) (k i n : Nat) (hi : 1 ≤ i) (h : Hm.toldN f k (i : Int) = true) : RD R f k (i + 1) n = if n = i then ⟨(R i).m, (R i).k - 1⟩ else RD R f k i n := by
  by_cases e : n = i
  · subst e
    rw [if_pos rfl]
    unfold RD
    rw [if_pos ⟨hi, by omega, h⟩]
  · rw [if_neg e]
    unfold RD
    congr 1
    refine propext ⟨fun ⟨a, b, c⟩ => ⟨a, by omega, c⟩, fun ⟨a, b, c⟩ => ⟨a, by omega, c⟩⟩
theorem refIs_rest {R : Nat → Rum} {f : Hm.St} {t q : Int} {k : Nat} (hs : Hm.Sane t f) (hI : RefIs R f) (hk : (Hm.sorted f).take k = (Hm.sorted f).take (max q 0).toNat) : RefIs (RD R f k 7) (Hm.rest q f) := by
  have hN : ∀ n, Hm.toldN f (max q 0).toNat n = Hm.toldN f k n := fun n => by unfold Hm.toldN; rw [hk]
  have htold : ∀ n : Nat, n < 7 → Hm.toldN f k (n : Int) = true → 1 ≤ n ∧ f (n : Int) = some (R n) ∧ 0 < (R n).k := fun n hn ht => by
    unfold Hm.toldN at ht
    rw [decide_eq_true_eq] at ht
    obtain ⟨r, hr, hrn⟩ := ht
    have hf := (Hm.mem_sorted hs).1 (List.mem_of_mem_take hr)
    rw [hrn] at hf
    have h1 := Hm.node_range hs hf
    have h2 := hI.is n hn
    by_cases hp : 0 < (R n).k
    · rw [if_pos hp] at h2
      exact ⟨by omega, h2, hp⟩
    · rw [if_neg hp, hf] at h2
      cases h2
  refine ⟨fun n hn => ?_, fun n hn => ?_⟩
  · rw [Hm.rest_at hs, hN]
    by_cases ht : Hm.toldN f k (n : Int) = true
    · obtain ⟨h1, h2, h3⟩ := htold n hn ht
      rw [if_pos ht, h2, RD_told ⟨h1, hn, ht⟩]
      by_cases hk1 : (R n).k = 1
      · simp [hk1]
      · simp only [if_neg hk1]
        rw [if_pos (by omega)]
    · rw [if_neg ht, RD_not fun e => ht e.2.2]
      exact hI.is n hn
  · have h0 := hI.lo n hn
    by_cases e : 1 ≤ n ∧ n < 7 ∧ Hm.toldN f k (n : Int) = true
    · have := (htold n hn e.2.2).2.2
      rw [RD_told e]
      show 0 ≤ (R n).k - 1 ∧ (R n).k - 1 ≤ 100
      omega
    · rw [RD_not e]
      exact h0
/-- what holds while the reference tells down -/
structure RTail (w : World) (f : Hm.St) (R : Nat → Rum) (T : Int) (k i u g6 : Nat) (v : Value) (wr : World) : Prop where
  own : Own wr w.heap.size 41 3 v k (memsV (((Hm.sorted f).take k).map (·.m)))
  told : TblAt wr g6 43 [] 1 (toldB f k)
  tab : TblAt wr u 54 [.int .i64 T] 4 (refT (RD R f k i))
  grown : w.grownBy wr (some u)
theorem builtB7' : Try.prog.built 43 [] = some (zBools 7).toArray := by kernel_rfl
theorem zeroB7' (w : World) : (zeroValue 43).run Try.prog w = .ok (.agg (zBools 7).toArray) w := by kernel_rfl
theorem infoB7' : (Try.prog.info? 43).map (·.size) = some (zBools 7).length := by kernel_rfl
set_option maxRecDepth 100000 in
set_option maxHeartbeats 4000000 in
theorem reftake_any {w : World} {u : Nat} {T : Int} {f : Hm.St} (h : RefHum w u T f) (hs : Hm.Sane T f) (n : Int) :
    Calls Try.prog 13 #[.pointer (some ⟨u, 0, none⟩), .int .i64 n] w fun e w' => ∃ v, e = .returned v ∧ Own w' w.heap.size 41 3 v (Hm.told n f).length (memsV ((Hm.told n f).map (·.m))) ∧ RefHum w' u T (Hm.rest n f) ∧ w.grownBy w' (some u) := by
  obtain ⟨R, hTb, hIs⟩ := h
  have HTB := Lib.hid hTb
  have HIS := Lib.hid hIs
  have HSN := Lib.hid hs
  have HUL := Lib.hid hTb.lt
  obtain ⟨i0, hi, hz0, hz1, hz2⟩ := info_parts info_mem
  have HO0 := Lib.hid (show Own (w.alloc (.cells #[] 41)) w.heap.size 41 3 (.slice (some ⟨w.heap.size, 0, none⟩) 0 0) 0 [] from Own.made w 41 3 [] 0 0 (Nat.le_refl _) (Nat.le_refl _) (by unfold maxLen; omega) rfl)
  have HB0 := Lib.hid (show Below w.heap.size w (w.alloc (.cells #[] 41)) from (Below.refl _ _).alloc (Nat.le_refl _) _)
  obtain ⟨len, hlen⟩ : ∃ len, len = (Hm.sorted f).length := ⟨_, rfl⟩
  have hl6 : len ≤ 6 := by rw [hlen, Hm.sorted_len]; exact List.length_filterMap_le _ nodes
  have HLEN := Lib.hid hlen
  clear hTb hIs hs hlen
  go_enter Try.func13, Try.ntmps13
  go_wp2_with (first
    | (with_reducible refine wpList_build (zBools 7).toArray (by with_unfolding_all rfl) 43 #[] rfl builtB7' ?_)
    | ((with_reducible refine wpList_allocZ (o := ⟨some 6, _, _, _, _, _⟩) 43 (zBools 7) rfl rfl zeroB7' ?_); intro g6 wa hg hat hb; have HA6 := Lib.hid hat; have HO1 := Lib.hid (HO0.out.below hb); have HBa := Lib.hid (HB0.out.trans (hb.mono HB0.out.size)); have HG6 := Lib.hid (show w.heap.size < g6 by rw [hg]; simp); clear hat hb hg)
    | ((with_reducible refine wpList_storeAll rfl 43 (.tmp 6) (.tmp 11) rfl g6 rfl _ _ (zBools 7) HA6.out rfl rfl infoB7' (zBools_one _) ?_); intro wb hat hg hs; have HA6b := Lib.hid hat; have HOb := Lib.hid (HO1.out.grown (row := some g6) hg (.inr (by intro e; injection e with e; have := HG6.out; simp only at e; omega))); have HBb := Lib.hid (Below.ofGrown HBa.out hg HBa.out.size (by have := HG6.out; omega)); clear hat hg hs))
  have HRT := Lib.hid (show RTake w f 0 g6 (.slice (some ⟨w.heap.size, 0, none⟩) 0 0) wb from ⟨by rw [List.take_zero]; exact HOb.out, TblAt.made (z := .bool false) HA6b.out (fun n => by unfold toldB; rw [Hm.toldN_zero]; rfl), HBb.out, by intro e; injection e with e; have := HG6.out; simp only at e; omega⟩)
  have hgu : g6 ≠ u := by have := HG6.out; have := HUL.out; omega
  have HGU := Lib.hid hgu
  clear HA6 HA6b HO1 HOb HBa HBb HO0 HB0 hgu
  simp only [Act.put, List.setIfInBounds_toArray, List.set_cons_zero, List.set_cons_succ]
  go_loopg [5] len (fun gg s5 wr => ∃ (k : Nat) (v : Value), v = s5 ∧ k ≤ len ∧ len - k ≤ gg ∧ (k : Int) ≤ max n 0 ∧ Hid (RTake w f k g6 v wr))
  case atStart => exact ⟨0, _, rfl, by omega, by omega, by omega, HRT.out⟩
  case round =>
    clear HRT
    obtain ⟨k, v, hv, hk, hgg, hkn, HRT⟩ := hrel
    subst hv
    obtain ⟨A5, c5, hv5⟩ : ∃ A c, v = .slice A k c := by
      rcases HRT.out.own.2 with ⟨h1, h2⟩ | ⟨g, cap, cur, fr, h1, _⟩
      · exact ⟨none, 0, by rw [h1, h2]⟩
      · exact ⟨_, _, h1⟩
    subst hv5
    by_cases hltn : (k : Int) < n
    · go_wp2_with fail
      go_loopw [7, 8] (fun s7 s8 wr => ∃ i b : Nat, 1 ≤ i ∧ i ≤ 7 ∧ s8 = .int .i64 i ∧ s7 = .int .i64 b ∧ b < 7 ∧ Hid (Hm.BestS f k i b) ∧ Hid (RTake w f k g6 (.slice A5 k c5) wr)) (fun _ s8 _ => 7 - (RowKit.intOf s8).toNat)
      case atStart => exact ⟨1, 0, by omega, by omega, rfl, rfl, by omega, Hm.best_start f k, HRT.out⟩
      case round =>
        clear HRT
        obtain ⟨i, b, hi1, hi7, rfl, rfl, hb7, HBS, HRT⟩ := hrel
        by_cases hlti : i < 7
        · have j1 : (1 : Int) ≤ (i : Int) := by omega
          have j2 : (i : Int) < 7 := by omega
          have j3 : (0 : Int) ≤ (b : Int) := by omega
          have j4 : (b : Int) < 7 := by omega
          obtain ⟨ki, hki⟩ : ∃ ki, ki = (R i).k := ⟨_, rfl⟩
          obtain ⟨kb, hkb⟩ : ∃ kb, kb = (R b).k := ⟨_, rfl⟩
          obtain ⟨B, hB⟩ : ∃ B, B = Hm.toldN f k (i : Int) := ⟨_, rfl⟩
          have HTL := Lib.hid (show ∀ w', Behind wr w' → w'.cell? ⟨g6, i, none⟩ = some (.bool B) from fun w' h => (HRT.out.told.below h).cell10 hlti (by unfold toldB; rw [hB]))
          have HKI := Lib.hid (show ∀ w', Behind wr w' → w'.cell? ⟨u, 1 + i * 4 + 3, none⟩ = some (.int .i64 ki) from fun w' h => by
            have hb := HRT.out.below.trans (Below.mono h HRT.out.below.size)
            rw [hki]
            exact (HTB.out.below hb).cell hlti (j := 3) (v := .int .i64 (R i).k) rfl)
          have HKB := Lib.hid (show ∀ w', Behind wr w' → w'.cell? ⟨u, 1 + b * 4 + 3, none⟩ = some (.int .i64 kb) from fun w' h => by
            have hb := HRT.out.below.trans (Below.mono h HRT.out.below.size)
            rw [hkb]
            exact (HTB.out.below hb).cell hb7 (j := 3) (v := .int .i64 (R b).k) rfl)
          have HUi := Lib.hid Try.underlying3
          have HUb := Lib.hid Try.underlying4
          have hfi := HIS.out.is i hlti
          have hfb := HIS.out.is b hb7
          rw [← hki] at hfi
          rw [← hkb] at hfb
          have HFI := Lib.hid hfi
          have HFB := Lib.hid hfb
          have HKE := Lib.hid (And.intro hki (And.intro hkb hB))
          clear hfi hfb hki hkb hB
          cases B
          · by_cases hpos : 0 < ki
            · have HSOME := Lib.hid (show f (i : Int) = some (R i) by have h := HFI.out; rw [if_pos hpos] at h; exact h)
              have HG0 := Lib.hid (show ∀ w, (binOp .gtr 3 (.int .i64 ki) (.int .i64 0)).run Try.prog w = .ok (.bool true) w from fun w => run_gtrI1 ki 0 hpos w)
              have HUNT := Lib.hid HKE.out.2.2.symm
              clear hpos
              by_cases hb0 : b = 0
              · subst hb0
                have HE0 := Lib.hid (show ∀ w, (binOp .eql 3 (.int .i64 ((0 : Nat) : Int)) (.int .i64 0)).run Try.prog w = .ok (.bool true) w from fun w => run_eqlI1 0 w)
                go_wp2_with fail
                refine wp_region_class (Behind wr) (by kernel_rfl) (by kernel_rfl) (Below.refl _ _).drew ?_
                iterate 35 (first
                  | go_big_quiet_skip
                  | ((with_reducible refine wpQuiet_val (.pointer (some ⟨u, 0, none⟩)) (by with_unfolding_all rfl) (fun w _ => exec_nil _ (by with_unfolding_all rfl) u 0 (by with_unfolding_all rfl) w) ?_); simp only [Act.put, List.setIfInBounds_toArray, List.set_cons_zero, List.set_cons_succ])
                  | ((with_reducible refine wpQuiet_val (.pointer (some ⟨u, 1, none⟩)) (by with_unfolding_all rfl) (fun w _ => exec_fieldL _ (by with_unfolding_all rfl) u (by with_unfolding_all rfl) w) ?_); simp only [Act.put, List.setIfInBounds_toArray, List.set_cons_zero, List.set_cons_succ])
                  | ((with_reducible refine wpQuiet_loadB (.bool false) (by with_unfolding_all rfl) 4 _ (by with_unfolding_all rfl) HUb.out g6 i (by with_unfolding_all rfl) (fun w h => HTL.out w h) ?_); simp only [Act.put, List.setIfInBounds_toArray, List.set_cons_zero, List.set_cons_succ])
                  | ((with_reducible refine wpQuiet_load1 (.int .i64 ki) (by with_unfolding_all rfl) 3 _ (by with_unfolding_all rfl) .i64 HUi.out u (1 + i * 4 + 3) (by with_unfolding_all rfl) (fun w h => HKI.out w h) ?_); simp only [Act.put, List.setIfInBounds_toArray, List.set_cons_zero, List.set_cons_succ])
                  | ((with_reducible refine wpQuiet_load1 (.int .i64 kb) (by with_unfolding_all rfl) 3 _ (by with_unfolding_all rfl) .i64 HUi.out u (1 + b * 4 + 3) (by with_unfolding_all rfl) (fun w h => HKB.out w h) ?_); simp only [Act.put, List.setIfInBounds_toArray, List.set_cons_zero, List.set_cons_succ])
                  | ((with_reducible refine wpQuiet_bin (by with_unfolding_all rfl) .gtr 3 _ _ _ (by with_unfolding_all rfl) (.int .i64 ki) (.int .i64 0) (.bool true) (by with_unfolding_all rfl) (by with_unfolding_all rfl) (fun w => run_guardI w _ _ _ _ _) (fun w => HG0.out w) ?_); simp only [Act.put, List.setIfInBounds_toArray, List.set_cons_zero, List.set_cons_succ])
                  | ((with_reducible refine wpQuiet_bin (by with_unfolding_all rfl) .eql 3 _ _ _ (by with_unfolding_all rfl) (.int .i64 ((0 : Nat) : Int)) (.int .i64 0) (.bool true) (by with_unfolding_all rfl) (by with_unfolding_all rfl) (fun w => run_guardI w _ _ _ _ _) (fun w => HE0.out w) ?_); simp only [Act.put, List.setIfInBounds_toArray, List.set_cons_zero, List.set_cons_succ])
                  | (go_big_quiet_step (exact fun _ => rfl)))
                with_reducible refine wpQuiet_nil ?_
                intro wy hwy
                have HRY := Lib.hid (HRT.out.up hwy)
                clear HTL HKI HKB hwy
                go_wp2_with fail
                go_roundw
                case rel => exact ⟨i + 1, i, by omega, by omega, by go_num, rfl, by omega, Hm.best_take HBS.out (by omega) HSOME.out HUNT.out (.inl rfl), HRY.out⟩
                case measure => simp [RowKit.intOf]; omega
              · have hbz : (b : Int) ≠ 0 := by omega
                have HE0 := Lib.hid (show ∀ w, (binOp .eql 3 (.int .i64 b) (.int .i64 0)).run Try.prog w = .ok (.bool false) w from fun w => run_eqlI0 b 0 hbz w)
                by_cases hgt : kb < ki
                · have HG2 := Lib.hid (show ∀ w, (binOp .gtr 3 (.int .i64 ki) (.int .i64 kb)).run Try.prog w = .ok (.bool true) w from fun w => run_gtrI1 ki kb hgt w)
                  have HGT := Lib.hid hgt
                  have HBZ := Lib.hid hb0
                  clear hgt hbz hb0
                  go_wp2_with fail
                  refine wp_region_class (Behind wr) (by kernel_rfl) (by kernel_rfl) (Below.refl _ _).drew ?_
                  iterate 35 (first
                    | go_big_quiet_skip
                    | ((with_reducible refine wpQuiet_val (.pointer (some ⟨u, 0, none⟩)) (by with_unfolding_all rfl) (fun w _ => exec_nil _ (by with_unfolding_all rfl) u 0 (by with_unfolding_all rfl) w) ?_); simp only [Act.put, List.setIfInBounds_toArray, List.set_cons_zero, List.set_cons_succ])
                    | ((with_reducible refine wpQuiet_val (.pointer (some ⟨u, 1, none⟩)) (by with_unfolding_all rfl) (fun w _ => exec_fieldL _ (by with_unfolding_all rfl) u (by with_unfolding_all rfl) w) ?_); simp only [Act.put, List.setIfInBounds_toArray, List.set_cons_zero, List.set_cons_succ])
                    | ((with_reducible refine wpQuiet_loadB (.bool false) (by with_unfolding_all rfl) 4 _ (by with_unfolding_all rfl) HUb.out g6 i (by with_unfolding_all rfl) (fun w h => HTL.out w h) ?_); simp only [Act.put, List.setIfInBounds_toArray, List.set_cons_zero, List.set_cons_succ])
                    | ((with_reducible refine wpQuiet_load1 (.int .i64 ki) (by with_unfolding_all rfl) 3 _ (by with_unfolding_all rfl) .i64 HUi.out u (1 + i * 4 + 3) (by with_unfolding_all rfl) (fun w h => HKI.out w h) ?_); simp only [Act.put, List.setIfInBounds_toArray, List.set_cons_zero, List.set_cons_succ])
                    | ((with_reducible refine wpQuiet_load1 (.int .i64 kb) (by with_unfolding_all rfl) 3 _ (by with_unfolding_all rfl) .i64 HUi.out u (1 + b * 4 + 3) (by with_unfolding_all rfl) (fun w h => HKB.out w h) ?_); simp only [Act.put, List.setIfInBounds_toArray, List.set_cons_zero, List.set_cons_succ])
                    | ((with_reducible refine wpQuiet_bin (by with_unfolding_all rfl) .gtr 3 _ _ _ (by with_unfolding_all rfl) (.int .i64 ki) (.int .i64 0) (.bool true) (by with_unfolding_all rfl) (by with_unfolding_all rfl) (fun w => run_guardI w _ _ _ _ _) (fun w => HG0.out w) ?_); simp only [Act.put, List.setIfInBounds_toArray, List.set_cons_zero, List.set_cons_succ])
                    | ((with_reducible refine wpQuiet_bin (by with_unfolding_all rfl) .eql 3 _ _ _ (by with_unfolding_all rfl) (.int .i64 b) (.int .i64 0) (.bool false) (by with_unfolding_all rfl) (by with_unfolding_all rfl) (fun w => run_guardI w _ _ _ _ _) (fun w => HE0.out w) ?_); simp only [Act.put, List.setIfInBounds_toArray, List.set_cons_zero, List.set_cons_succ])
                    | ((with_reducible refine wpQuiet_bin (by with_unfolding_all rfl) .gtr 3 _ _ _ (by with_unfolding_all rfl) (.int .i64 ki) (.int .i64 kb) (.bool true) (by with_unfolding_all rfl) (by with_unfolding_all rfl) (fun w => run_guardI w _ _ _ _ _) (fun w => HG2.out w) ?_); simp only [Act.put, List.setIfInBounds_toArray, List.set_cons_zero, List.set_cons_succ])
                    | (go_big_quiet_step (exact fun _ => rfl)))
                  with_reducible refine wpQuiet_nil ?_
                  intro wy hwy
                  have HRY := Lib.hid (HRT.out.up hwy)
                  clear HTL HKI HKB hwy
                  go_wp2_with fail
                  go_roundw
                  case rel =>
                    refine ⟨i + 1, i, by omega, by omega, by go_num, rfl, by omega, ?_, HRY.out⟩
                    refine Hm.best_take HBS.out (by omega) HSOME.out HUNT.out (.inr ?_)
                    rcases HBS.out with ⟨h1, _⟩ | ⟨_, _, _, r, h4, _⟩
                    · have := HBZ.out; omega
                    · refine ⟨r, h4, ?_⟩
                      have h5 := HFB.out
                      rw [h4] at h5
                      by_cases hp : 0 < kb
                      · rw [if_pos hp] at h5
                        rw [Option.some.inj h5, ← HKE.out.1, ← HKE.out.2.1]
                        exact HGT.out
                      · rw [if_neg hp] at h5
                        cases h5
                  case measure => simp [RowKit.intOf]; omega
                · have hle : ki ≤ kb := by omega
                  have HG2 := Lib.hid (show ∀ w, (binOp .gtr 3 (.int .i64 ki) (.int .i64 kb)).run Try.prog w = .ok (.bool false) w from fun w => run_gtrI0 ki kb hle w)
                  have HLE := Lib.hid hle
                  have HBZ := Lib.hid hb0
                  clear hgt hle hbz hb0
                  go_wp2_with fail
                  refine wp_region_class (Behind wr) (by kernel_rfl) (by kernel_rfl) (Below.refl _ _).drew ?_
                  iterate 35 (first
                    | go_big_quiet_skip
                    | ((with_reducible refine wpQuiet_val (.pointer (some ⟨u, 0, none⟩)) (by with_unfolding_all rfl) (fun w _ => exec_nil _ (by with_unfolding_all rfl) u 0 (by with_unfolding_all rfl) w) ?_); simp only [Act.put, List.setIfInBounds_toArray, List.set_cons_zero, List.set_cons_succ])
                    | ((with_reducible refine wpQuiet_val (.pointer (some ⟨u, 1, none⟩)) (by with_unfolding_all rfl) (fun w _ => exec_fieldL _ (by with_unfolding_all rfl) u (by with_unfolding_all rfl) w) ?_); simp only [Act.put, List.setIfInBounds_toArray, List.set_cons_zero, List.set_cons_succ])
                    | ((with_reducible refine wpQuiet_loadB (.bool false) (by with_unfolding_all rfl) 4 _ (by with_unfolding_all rfl) HUb.out g6 i (by with_unfolding_all rfl) (fun w h => HTL.out w h) ?_); simp only [Act.put, List.setIfInBounds_toArray, List.set_cons_zero, List.set_cons_succ])
                    | ((with_reducible refine wpQuiet_load1 (.int .i64 ki) (by with_unfolding_all rfl) 3 _ (by with_unfolding_all rfl) .i64 HUi.out u (1 + i * 4 + 3) (by with_unfolding_all rfl) (fun w h => HKI.out w h) ?_); simp only [Act.put, List.setIfInBounds_toArray, List.set_cons_zero, List.set_cons_succ])
                    | ((with_reducible refine wpQuiet_load1 (.int .i64 kb) (by with_unfolding_all rfl) 3 _ (by with_unfolding_all rfl) .i64 HUi.out u (1 + b * 4 + 3) (by with_unfolding_all rfl) (fun w h => HKB.out w h) ?_); simp only [Act.put, List.setIfInBounds_toArray, List.set_cons_zero, List.set_cons_succ])
                    | ((with_reducible refine wpQuiet_bin (by with_unfolding_all rfl) .gtr 3 _ _ _ (by with_unfolding_all rfl) (.int .i64 ki) (.int .i64 0) (.bool true) (by with_unfolding_all rfl) (by with_unfolding_all rfl) (fun w => run_guardI w _ _ _ _ _) (fun w => HG0.out w) ?_); simp only [Act.put, List.setIfInBounds_toArray, List.set_cons_zero, List.set_cons_succ])
                    | ((with_reducible refine wpQuiet_bin (by with_unfolding_all rfl) .eql 3 _ _ _ (by with_unfolding_all rfl) (.int .i64 b) (.int .i64 0) (.bool false) (by with_unfolding_all rfl) (by with_unfolding_all rfl) (fun w => run_guardI w _ _ _ _ _) (fun w => HE0.out w) ?_); simp only [Act.put, List.setIfInBounds_toArray, List.set_cons_zero, List.set_cons_succ])
                    | ((with_reducible refine wpQuiet_bin (by with_unfolding_all rfl) .gtr 3 _ _ _ (by with_unfolding_all rfl) (.int .i64 ki) (.int .i64 kb) (.bool false) (by with_unfolding_all rfl) (by with_unfolding_all rfl) (fun w => run_guardI w _ _ _ _ _) (fun w => HG2.out w) ?_); simp only [Act.put, List.setIfInBounds_toArray, List.set_cons_zero, List.set_cons_succ])
                    | (go_big_quiet_step (exact fun _ => rfl)))
                  with_reducible refine wpQuiet_nil ?_
                  intro wy hwy
                  have HRY := Lib.hid (HRT.out.up hwy)
                  clear HTL HKI HKB hwy
                  go_wp2_with fail
                  go_roundw
                  case rel =>
                    refine ⟨i + 1, b, by omega, by omega, by go_num, rfl, by omega, ?_, HRY.out⟩
                    refine Hm.best_keep HSN.out HBS.out HSOME.out (by have := HBZ.out; omega) fun r h4 => ?_
                    have h5 := HFB.out
                    rw [h4] at h5
                    by_cases hp : 0 < kb
                    · rw [if_pos hp] at h5
                      rw [Option.some.inj h5, ← HKE.out.1, ← HKE.out.2.1]
                      exact HLE.out
                    · rw [if_neg hp] at h5
                      cases h5
                  case measure => simp [RowKit.intOf]; omega
            · have HNONE := Lib.hid (show f (i : Int) = none by have h := HFI.out; rw [if_neg hpos] at h; exact h)
              have HG0 := Lib.hid (show ∀ w, (binOp .gtr 3 (.int .i64 ki) (.int .i64 0)).run Try.prog w = .ok (.bool false) w from fun w => run_gtrI0 ki 0 (by omega) w)
              clear hpos
              go_wp2_with fail
              refine wp_region_class (Behind wr) (by kernel_rfl) (by kernel_rfl) (Below.refl _ _).drew ?_
              iterate 35 (first
                | go_big_quiet_skip
                | ((with_reducible refine wpQuiet_val (.pointer (some ⟨u, 0, none⟩)) (by with_unfolding_all rfl) (fun w _ => exec_nil _ (by with_unfolding_all rfl) u 0 (by with_unfolding_all rfl) w) ?_); simp only [Act.put, List.setIfInBounds_toArray, List.set_cons_zero, List.set_cons_succ])
                | ((with_reducible refine wpQuiet_val (.pointer (some ⟨u, 1, none⟩)) (by with_unfolding_all rfl) (fun w _ => exec_fieldL _ (by with_unfolding_all rfl) u (by with_unfolding_all rfl) w) ?_); simp only [Act.put, List.setIfInBounds_toArray, List.set_cons_zero, List.set_cons_succ])
                | ((with_reducible refine wpQuiet_loadB (.bool false) (by with_unfolding_all rfl) 4 _ (by with_unfolding_all rfl) HUb.out g6 i (by with_unfolding_all rfl) (fun w h => HTL.out w h) ?_); simp only [Act.put, List.setIfInBounds_toArray, List.set_cons_zero, List.set_cons_succ])
                | ((with_reducible refine wpQuiet_load1 (.int .i64 ki) (by with_unfolding_all rfl) 3 _ (by with_unfolding_all rfl) .i64 HUi.out u (1 + i * 4 + 3) (by with_unfolding_all rfl) (fun w h => HKI.out w h) ?_); simp only [Act.put, List.setIfInBounds_toArray, List.set_cons_zero, List.set_cons_succ])
                | ((with_reducible refine wpQuiet_load1 (.int .i64 kb) (by with_unfolding_all rfl) 3 _ (by with_unfolding_all rfl) .i64 HUi.out u (1 + b * 4 + 3) (by with_unfolding_all rfl) (fun w h => HKB.out w h) ?_); simp only [Act.put, List.setIfInBounds_toArray, List.set_cons_zero, List.set_cons_succ])
                | ((with_reducible refine wpQuiet_bin (by with_unfolding_all rfl) .gtr 3 _ _ _ (by with_unfolding_all rfl) (.int .i64 ki) (.int .i64 0) (.bool false) (by with_unfolding_all rfl) (by with_unfolding_all rfl) (fun w => run_guardI w _ _ _ _ _) (fun w => HG0.out w) ?_); simp only [Act.put, List.setIfInBounds_toArray, List.set_cons_zero, List.set_cons_succ])
                | (go_big_quiet_step (exact fun _ => rfl)))
              with_reducible refine wpQuiet_nil ?_
              intro wy hwy
              have HRY := Lib.hid (HRT.out.up hwy)
              clear HTL HKI HKB hwy
              go_wp2_with fail
              go_roundw
              case rel => exact ⟨i + 1, b, by omega, by omega, by go_num, rfl, by omega, Hm.best_skip HBS.out (.inr HNONE.out), HRY.out⟩
              case measure => simp [RowKit.intOf]; omega
          · have HTLD := Lib.hid HKE.out.2.2.symm
            go_wp2_with fail
            refine wp_region_class (Behind wr) (by kernel_rfl) (by kernel_rfl) (Below.refl _ _).drew ?_
            iterate 35 (first
              | go_big_quiet_skip
              | ((with_reducible refine wpQuiet_val (.pointer (some ⟨u, 0, none⟩)) (by with_unfolding_all rfl) (fun w _ => exec_nil _ (by with_unfolding_all rfl) u 0 (by with_unfolding_all rfl) w) ?_); simp only [Act.put, List.setIfInBounds_toArray, List.set_cons_zero, List.set_cons_succ])
              | ((with_reducible refine wpQuiet_val (.pointer (some ⟨u, 1, none⟩)) (by with_unfolding_all rfl) (fun w _ => exec_fieldL _ (by with_unfolding_all rfl) u (by with_unfolding_all rfl) w) ?_); simp only [Act.put, List.setIfInBounds_toArray, List.set_cons_zero, List.set_cons_succ])
              | ((with_reducible refine wpQuiet_loadB (.bool true) (by with_unfolding_all rfl) 4 _ (by with_unfolding_all rfl) HUb.out g6 i (by with_unfolding_all rfl) (fun w h => HTL.out w h) ?_); simp only [Act.put, List.setIfInBounds_toArray, List.set_cons_zero, List.set_cons_succ])
              | ((with_reducible refine wpQuiet_load1 (.int .i64 ki) (by with_unfolding_all rfl) 3 _ (by with_unfolding_all rfl) .i64 HUi.out u (1 + i * 4 + 3) (by with_unfolding_all rfl) (fun w h => HKI.out w h) ?_); simp only [Act.put, List.setIfInBounds_toArray, List.set_cons_zero, List.set_cons_succ])
              | ((with_reducible refine wpQuiet_load1 (.int .i64 kb) (by with_unfolding_all rfl) 3 _ (by with_unfolding_all rfl) .i64 HUi.out u (1 + b * 4 + 3) (by with_unfolding_all rfl) (fun w h => HKB.out w h) ?_); simp only [Act.put, List.setIfInBounds_toArray, List.set_cons_zero, List.set_cons_succ])
              | (go_big_quiet_step (exact fun _ => rfl)))
            with_reducible refine wpQuiet_nil ?_
            intro wy hwy
            have HRY := Lib.hid (HRT.out.up hwy)
            clear HTL HKI HKB hwy
            go_wp2_with fail
            go_roundw
            case rel => exact ⟨i + 1, b, by omega, by omega, by go_num, rfl, by omega, Hm.best_skip HBS.out (.inl HTLD.out), HRY.out⟩
            case measure => simp [RowKit.intOf]; omega
        · have hi7e : i = 7 := by omega
          subst hi7e
          clear hlti
          rcases Hm.best_next HSN.out HBS.out with ⟨hb0, hlenk⟩ | ⟨hkl, hfb, hbn, hb1, hb7z⟩
          · have hb0n : b = 0 := by omega
            subst hb0n
            have HTK := Lib.hid (show (Hm.sorted f).take k = (Hm.sorted f).take (max n 0).toNat by rw [List.take_of_length_le hlenk, List.take_of_length_le (by omega)])
            clear hb0 hlenk HBS
            have HRS := Lib.hid (show RTail w f R T k 1 u g6 (.slice A5 k c5) wr from ⟨HRT.out.own, HRT.out.told, (HTB.out.below HRT.out.below).congr (fun n => by unfold refT; rw [RD_start]), ⟨HRT.out.below.os, HRT.out.below.tape, HRT.out.below.output, HRT.out.below.size, fun i hi _ => HRT.out.below.block i hi⟩⟩)
            clear HRT
            go_wp2_with fail
            go_loopw [9] (fun s9 wr => ∃ i : Nat, 1 ≤ i ∧ i ≤ 7 ∧ s9 = .int .i64 i ∧ Hid (RTail w f R T k i u g6 (.slice A5 k c5) wr)) (fun s9 _ => 7 - (RowKit.intOf s9).toNat)
            case atStart => exact ⟨1, by omega, by omega, rfl, HRS.out⟩
            case round =>
              clear HRS
              obtain ⟨i, hi1, hi7, rfl, HRS⟩ := hrel
              by_cases hlti : i < 7
              · have j1 : (1 : Int) ≤ (i : Int) := by omega
                have j2 : (i : Int) < 7 := by omega
                obtain ⟨B, hB⟩ : ∃ B, B = Hm.toldN f k (i : Int) := ⟨_, rfl⟩
                have t0 := HRS.out.told.cell10 hlti (v := .bool B) (by unfold toldB; rw [hB])
                have HBE := Lib.hid hB
                clear hB
                cases B
                · go_wp2_with fail
                  go_roundw
                  case rel => exact ⟨i + 1, by omega, by omega, by go_num, HRS.out.own, HRS.out.told, HRS.out.tab.congr (fun n => by unfold refT; rw [RD_skip R f k i n HBE.out.symm]), HRS.out.grown⟩
                  case measure => simp [RowKit.intOf]; omega
                · obtain ⟨ki, hki⟩ : ∃ ki, ki = (R i).k := ⟨_, rfl⟩
                  have e3 : wr.cell? ⟨u, 1 + i * 4 + 3, none⟩ = some (.int .i64 ki) := HRS.out.tab.cell hlti (j := 3) (v := .int .i64 ki) (by show some (Value.int .i64 (RD R f k i i).k) = _; rw [RD_at, hki])
                  have hlo := HIS.out.lo i hlti
                  rw [← hki] at hlo
                  have hk0 := hlo.1
                  have hk1 := hlo.2
                  have HKI := Lib.hid hki
                  clear hlo hki
                  go_wp2_with fail
                  refine wp_region_then (fun w' => ∃ n, w' = wr.drewN n) 12 (by kernel_rfl) (by kernel_rfl) (by kernel_rfl) (by kernel_rfl) (by decide) ⟨1, rfl⟩ ?_
                  simp only [List.take_succ_cons, List.take_zero, List.drop_succ_cons, List.drop_zero]
                  iterate 12 (first
                    | ((with_reducible refine wpQuiet_val (.pointer (some ⟨u, 0, none⟩)) (by with_unfolding_all rfl) (fun w _ => exec_nil _ (by with_unfolding_all rfl) u 0 (by with_unfolding_all rfl) w) ?_); simp only [Act.put, List.setIfInBounds_toArray, List.set_cons_zero, List.set_cons_succ])
                    | ((with_reducible refine wpQuiet_val (.pointer (some ⟨u, 1, none⟩)) (by with_unfolding_all rfl) (fun w _ => exec_fieldL _ (by with_unfolding_all rfl) u (by with_unfolding_all rfl) w) ?_); simp only [Act.put, List.setIfInBounds_toArray, List.set_cons_zero, List.set_cons_succ])
                    | (go_big_quiet_step (fail)))
                  refine wpQuiet_nil ?_
                  intro _ hw'
                  obtain ⟨nq, rfl⟩ := hw'
                  have hB7 := below_drewN (Below.refl wr.heap.size wr) nq
                  have hTab := HRS.out.tab.below hB7
                  refine wpList_storeI rfl 3 (.tmp 88) (.tmp 84) rfl u (1 + i * 4 + 3) .i64 (ki - 1) rfl rfl (by kernel_rfl) ⟨by have h := hTab.cell hlti (j := 3) (v := .int .i64 (RD R f k i i).k) rfl; exact Option.isSome_iff_exists.2 ⟨_, h⟩, hTab.frozen _⟩ ?_
                  have hp := hTab.set1 hlti (j := 3) (by omega) (.int .i64 (ki - 1))
                  have hg8 : (wr.drewN nq).grownBy ((wr.drewN nq).setCell ⟨u, 1 + i * 4 + 3, none⟩ (.int .i64 (ki - 1))) (some u) := grown_setCell (World.grownBy.refl _ _) (.inl rfl) _
                  have hp : TblAt ((wr.drewN nq).setCell ⟨u, 1 + i * 4 + 3, none⟩ (.int .i64 (ki - 1))) u 54 [.int .i64 T] 4 (fun n => if n = i then (refT (RD R f k i) i).set 3 (.int .i64 (ki - 1)) else refT (RD R f k i) n) := hp
                  have hO8 := (HRS.out.own.below hB7).grown hg8 (by
                    by_cases he : (Value.slice A5 k c5).ownBlock = some u
                    · have := ((HRS.out.own).lt u he).1; have := HUL.out; omega
                    · exact .inr he)
                  have hT8 := (HRS.out.told.below hB7).grown hg8 (by intro e; injection e with e; exact HGU.out e)
                  have hgw := (grown_below HRS.out.grown hB7).trans hg8
                  generalize (wr.drewN nq).setCell ⟨u, 1 + i * 4 + 3, none⟩ (.int .i64 (ki - 1)) = w8 at hp hO8 hT8 hgw ⊢
                  have HR8 := Lib.hid (show RTail w f R T k (i + 1) u g6 (.slice A5 k c5) w8 from ⟨hO8, hT8, hp.congr (fun n => by
                    show (if n = i then (rumC (RD R f k i i)).set 3 (.int .i64 (ki - 1)) else rumC (RD R f k i n)) = rumC (RD R f k (i + 1) n)
                    rw [RD_next R f k i n hi1 HBE.out.symm]
                    by_cases e : n = i
                    · rw [if_pos e, if_pos e, RD_at, HKI.out]; rfl
                    · rw [if_neg e, if_neg e]), hgw⟩)
                  clear hp hO8 hT8 hgw hg8 hTab hB7 t0 e3 hk0 hk1
                  refine wpList_nil ?_
                  simp only [Act.put]
                  go_wp2_with fail
                  go_roundw
                  case rel => exact ⟨i + 1, by omega, by omega, by go_num, HR8.out⟩
                  case measure => simp [RowKit.intOf]; omega
              · have hi : i = 7 := by omega
                subst hi
                go_wp2_with fail
                go_ret
                refine ⟨.slice A5 k c5, rfl, ?_, ⟨_, HRS.out.tab, refIs_rest HSN.out HIS.out HTK.out⟩, HRS.out.grown⟩
                have ht : (Hm.sorted f).take k = Hm.told n f := HTK.out
                have h := HRS.out.own
                rw [ht] at h
                have hl : k = (Hm.told n f).length := by rw [← ht, List.length_take, ← HLEN.out]; omega
                rw [← hl]
                exact h
          · have hbz : ¬ (b : Int) = 0 := by omega
            have hRb := HIS.out.is b hb7
            rw [hfb] at hRb
            have hpos : 0 < (R b).k := by
              by_cases hp : 0 < (R b).k
              · exact hp
              · rw [if_neg hp] at hRb; cases hRb
            rw [if_pos hpos] at hRb
            have hsk : (Hm.sorted f)[k] = R b := Option.some.inj hRb
            obtain ⟨m, hm⟩ : ∃ m, m = (R b).m := ⟨_, rfl⟩
            have e0 := HRT.out.told.cell10 hb7 (v := .bool (Hm.toldN f k (b : Int))) rfl
            have ef := HRT.out.told.frozen b
            have hxx := HRT.out.below
            have HTU := Lib.hid (HTB.out.below hxx)
            obtain ⟨w9, hw9⟩ : ∃ w9, w9 = wr.setCell ⟨g6, b, none⟩ (.bool true) := ⟨_, rfl⟩
            have hgs : wr.grownBy w9 (some g6) := by rw [hw9]; exact grown_setCell (World.grownBy.refl _ _) (.inl rfl) _
            have hO9 := HRT.out.own.grown hgs (.inr HRT.out.ne)
            have hT9 : TblAt w9 g6 43 [] 1 (fun i => if i = b then [.bool true] else toldB f k i) := by rw [hw9]; exact HRT.out.told.put10 hb7 _
            have hB9 := Below.ofGrown HRT.out.below hgs HRT.out.below.size (by have := HG6.out; omega)
            have hU9 := HTU.out.grown hgs (by intro e; injection e with e; exact HGU.out e.symm)
            have x0 : w9.cell? ⟨u, 1 + b * 4, none⟩ = some (.int .i64 m.n) := hU9.cell hb7 (j := 0) (v := .int .i64 m.n) (by rw [hm]; rfl)
            have x1 : w9.cell? ⟨u, 1 + b * 4 + 1, none⟩ = some (.int .i64 m.i) := hU9.cell hb7 (j := 1) (v := .int .i64 m.i) (by rw [hm]; rfl)
            have x2 : w9.cell? ⟨u, 1 + b * 4 + 2, none⟩ = some (.int .i64 m.s) := hU9.cell hb7 (j := 2) (v := .int .i64 m.s) (by rw [hm]; rfl)
            have HO9 := Lib.hid hO9
            have HT9 := Lib.hid hT9
            have HB9 := Lib.hid hB9
            have HNE := Lib.hid HRT.out.ne
            have HG9 := Lib.hid (show g6 < w9.heap.size from hT9.lt)
            have HX9 := Lib.hid (And.intro hsk (And.intro hm hbn))
            have HKL := Lib.hid hkl
            have hk6 : k < len := by rw [HLEN.out]; exact hkl
            have hb3 : (0 : Int) ≤ (b : Int) := by omega
            have hb4 : (b : Int) < 7 := by omega
            have HW9 := Lib.hid hw9
            clear hO9 hT9 hB9 hU9 hgs hw9 HRT HTU hRb hpos hsk hm hbn hfb hxx HBS
            go_upto_region 12 with fail
            rw [← HW9.out]
            clear HW9 e0 ef
            go_wp2_with (at_builtin; (refine wpList_append_Own _ rfl (.tmp 60) (.tmp 68) 28 rfl w.heap.size 41 i0 _ 3 24 Try.underlying28 hi hz0 hz1 hz2 rfl (by omega) _ _ _ rfl (HO9.out.alloc _) ⟨_, 0, none⟩ 1 1 (cellsM m) rfl rfl (three_new _ _) (cellsM_oneCell _) ?_ ?_ ?_ ?_); (focus (unfold maxLen; omega)); (focus omega); (focus (have := HB9.out.size; simp; omega)); intro v5 wz hOz hgz hatz)
            go_roundg (len - (k + 1))
            case measure => omega
            case rel =>
              refine ⟨k + 1, v5, rfl, by omega, by omega, by omega, ?_, ?_, ?_, ?_⟩
              · rw [take_snoc _ k HKL.out, List.map_append]
                have e : memsV (((Hm.sorted f).take k).map (·.m) ++ [(Hm.sorted f)[k]'HKL.out].map (·.m)) = memsV (((Hm.sorted f).take k).map (·.m)) ++ cellsM m := by
                  rw [HX9.out.1, HX9.out.2.1]; simp [memsV]
                rw [e]
                exact hOz
              · have h := (HT9.out.below ((Below.refl w9.heap.size w9).alloc (Nat.le_refl _) (.cells #[.int .i64 m.n, .int .i64 m.i, .int .i64 m.s] 41))).grown hgz (fun e => HNE.out e.symm)
                refine h.congr fun i => ?_
                unfold toldB
                rw [Hm.toldN_next HSN.out HKL.out]
                by_cases e : i = b
                · rw [if_pos e, if_pos (by rw [e, HX9.out.2.2])]
                · rw [if_neg e, if_neg (by rw [← HX9.out.2.2]; omega)]
              · exact own_below2 (HO9.out.alloc _) (HB9.out.alloc HB9.out.size _) (Nat.le_refl _) (HB9.out.alloc HB9.out.size _).size hgz
              · rcases hatz with hatz | hatz
                · rw [hatz]; exact HNE.out
                · rw [hatz]; intro e; injection e with e; have := HG9.out; simp at e; omega
    · have HTK := Lib.hid (show (Hm.sorted f).take k = (Hm.sorted f).take (max n 0).toNat by rw [show (max n 0).toNat = k by omega])
      have HRS := Lib.hid (show RTail w f R T k 1 u g6 (.slice A5 k c5) wr from ⟨HRT.out.own, HRT.out.told, (HTB.out.below HRT.out.below).congr (fun n => by unfold refT; rw [RD_start]), ⟨HRT.out.below.os, HRT.out.below.tape, HRT.out.below.output, HRT.out.below.size, fun i hi _ => HRT.out.below.block i hi⟩⟩)
      clear HRT
      go_wp2_with fail
      go_loopw [9] (fun s9 wr => ∃ i : Nat, 1 ≤ i ∧ i ≤ 7 ∧ s9 = .int .i64 i ∧ Hid (RTail w f R T k i u g6 (.slice A5 k c5) wr)) (fun s9 _ => 7 - (RowKit.intOf s9).toNat)
      case atStart => exact ⟨1, by omega, by omega, rfl, HRS.out⟩
      case round =>
        clear HRS
        obtain ⟨i, hi1, hi7, rfl, HRS⟩ := hrel
        by_cases hlti : i < 7
        · have j1 : (1 : Int) ≤ (i : Int) := by omega
          have j2 : (i : Int) < 7 := by omega
          obtain ⟨B, hB⟩ : ∃ B, B = Hm.toldN f k (i : Int) := ⟨_, rfl⟩
          have t0 := HRS.out.told.cell10 hlti (v := .bool B) (by unfold toldB; rw [hB])
          have HBE := Lib.hid hB
          clear hB
          cases B
          · go_wp2_with fail
            go_roundw
            case rel => exact ⟨i + 1, by omega, by omega, by go_num, HRS.out.own, HRS.out.told, HRS.out.tab.congr (fun n => by unfold refT; rw [RD_skip R f k i n HBE.out.symm]), HRS.out.grown⟩
            case measure => simp [RowKit.intOf]; omega
          · obtain ⟨ki, hki⟩ : ∃ ki, ki = (R i).k := ⟨_, rfl⟩
            have e3 : wr.cell? ⟨u, 1 + i * 4 + 3, none⟩ = some (.int .i64 ki) := HRS.out.tab.cell hlti (j := 3) (v := .int .i64 ki) (by show some (Value.int .i64 (RD R f k i i).k) = _; rw [RD_at, hki])
            have hlo := HIS.out.lo i hlti
            rw [← hki] at hlo
            have hk0 := hlo.1
            have hk1 := hlo.2
            have HKI := Lib.hid hki
            clear hlo hki
            go_wp2_with fail
            refine wp_region_then (fun w' => ∃ n, w' = wr.drewN n) 12 (by kernel_rfl) (by kernel_rfl) (by kernel_rfl) (by kernel_rfl) (by decide) ⟨1, rfl⟩ ?_
            simp only [List.take_succ_cons, List.take_zero, List.drop_succ_cons, List.drop_zero]
            iterate 12 (first
              | ((with_reducible refine wpQuiet_val (.pointer (some ⟨u, 0, none⟩)) (by with_unfolding_all rfl) (fun w _ => exec_nil _ (by with_unfolding_all rfl) u 0 (by with_unfolding_all rfl) w) ?_); simp only [Act.put, List.setIfInBounds_toArray, List.set_cons_zero, List.set_cons_succ])
              | ((with_reducible refine wpQuiet_val (.pointer (some ⟨u, 1, none⟩)) (by with_unfolding_all rfl) (fun w _ => exec_fieldL _ (by with_unfolding_all rfl) u (by with_unfolding_all rfl) w) ?_); simp only [Act.put, List.setIfInBounds_toArray, List.set_cons_zero, List.set_cons_succ])
              | (go_big_quiet_step (fail)))
            refine wpQuiet_nil ?_
            intro _ hw'
            obtain ⟨nq, rfl⟩ := hw'
            have hB7 := below_drewN (Below.refl wr.heap.size wr) nq
            have hTab := HRS.out.tab.below hB7
            refine wpList_storeI rfl 3 (.tmp 88) (.tmp 84) rfl u (1 + i * 4 + 3) .i64 (ki - 1) rfl rfl (by kernel_rfl) ⟨by have h := hTab.cell hlti (j := 3) (v := .int .i64 (RD R f k i i).k) rfl; exact Option.isSome_iff_exists.2 ⟨_, h⟩, hTab.frozen _⟩ ?_
            have hp := hTab.set1 hlti (j := 3) (by omega) (.int .i64 (ki - 1))
            have hg8 : (wr.drewN nq).grownBy ((wr.drewN nq).setCell ⟨u, 1 + i * 4 + 3, none⟩ (.int .i64 (ki - 1))) (some u) := grown_setCell (World.grownBy.refl _ _) (.inl rfl) _
            have hp : TblAt ((wr.drewN nq).setCell ⟨u, 1 + i * 4 + 3, none⟩ (.int .i64 (ki - 1))) u 54 [.int .i64 T] 4 (fun n => if n = i then (refT (RD R f k i) i).set 3 (.int .i64 (ki - 1)) else refT (RD R f k i) n) := hp
            have hO8 := (HRS.out.own.below hB7).grown hg8 (by
              by_cases he : (Value.slice A5 k c5).ownBlock = some u
              · have := ((HRS.out.own).lt u he).1; have := HUL.out; omega
              · exact .inr he)
            have hT8 := (HRS.out.told.below hB7).grown hg8 (by intro e; injection e with e; exact HGU.out e)
            have hgw := (grown_below HRS.out.grown hB7).trans hg8
            generalize (wr.drewN nq).setCell ⟨u, 1 + i * 4 + 3, none⟩ (.int .i64 (ki - 1)) = w8 at hp hO8 hT8 hgw ⊢
            have HR8 := Lib.hid (show RTail w f R T k (i + 1) u g6 (.slice A5 k c5) w8 from ⟨hO8, hT8, hp.congr (fun n => by
              show (if n = i then (rumC (RD R f k i i)).set 3 (.int .i64 (ki - 1)) else rumC (RD R f k i n)) = rumC (RD R f k (i + 1) n)
              rw [RD_next R f k i n hi1 HBE.out.symm]
              by_cases e : n = i
              · rw [if_pos e, if_pos e, RD_at, HKI.out]; rfl
              · rw [if_neg e, if_neg e]), hgw⟩)
            clear hp hO8 hT8 hgw hg8 hTab hB7 t0 e3 hk0 hk1
            refine wpList_nil ?_
            simp only [Act.put]
            go_wp2_with fail
            go_roundw
            case rel => exact ⟨i + 1, by omega, by omega, by go_num, HR8.out⟩
            case measure => simp [RowKit.intOf]; omega
        · have hi : i = 7 := by omega
          subst hi
          go_wp2_with fail
          go_ret
          refine ⟨.slice A5 k c5, rfl, ?_, ⟨_, HRS.out.tab, refIs_rest HSN.out HIS.out HTK.out⟩, HRS.out.grown⟩
          have ht : (Hm.sorted f).take k = Hm.told n f := HTK.out
          have h := HRS.out.own
          rw [ht] at h
          have hl : k = (Hm.told n f).length := by rw [← ht, List.length_take, ← HLEN.out]; omega
          rw [← hl]
          exact h
end Go.Proofs.Ytepnepgjlnoabaa
