/- Layer 11: Take. -/
import Derived.Test.YtepnepgjlnoabaaHumI
namespace Go.Proofs.Ytepnepgjlnoabaa
open Go.Proofs Stab Go.Shelf Go.RowKit Go.Lib Go.Sort Go.Maps

/-- members as cells, one behind the other -/
def memsV (l : List Mem) : List Value := l.flatMap cellsM
theorem three_new (w : World) (m : Mem) : ∀ j u, (cellsM m)[j]? = some u → (w.alloc (.cells #[.int .i64 m.n, .int .i64 m.i, .int .i64 m.s] 41)).cell? ((⟨w.heap.size, 0, none⟩ : Addr).add j) = some u := by
  intro j u hu
  have e : (⟨w.heap.size, 0, none⟩ : Addr).add j = ⟨w.heap.size, j, none⟩ := by unfold Addr.add; split <;> simp_all
  rw [e]
  exact (memAt w m).cell' hu
theorem cellsM_oneCell (m : Mem) : ∀ u ∈ cellsM m, u.oneCell' = true := by
  intro u hu
  simp only [cellsM, List.mem_cons, List.not_mem_nil, or_false] at hu
  rcases hu with rfl | rfl | rfl <;> rfl
section
variable {P : Program} {ops : Array Oper} {Q : Exit → Act → World → Prop} {o : Oper} {rest : List Oper} {a : Act} {w : World}
theorem wpList_store1 (hgd : o.guard = none) (ty : TypeId) (x y : Operand) (ho : o.op = .store ty x y) (b off : Nat) (k : IntKind) (n : Int)
    (hx : a.eval x = .pointer (some ⟨b, off, none⟩)) (hy : a.eval y = .int k n) (hi : (P.info? ty).map (·.size) = some 1) (t : TypeId) (cs : List Value) (hg : At w b t cs) (hl : off < cs.length)
    (h : ∀ w', At w' b t (cs.set off (.int k n)) → w.grownBy w' (some b) → w'.heap.size = w.heap.size → wpList P ops Q rest (a.put o.dst undef) w') : wpList P ops Q (o :: rest) a w :=
  wpList_plain hgd fun _ hK => by
    have hc : (w.cell? ⟨b, off, none⟩).isSome = true ∧ w.frozen? ⟨b, off, none⟩ = false := by
      rw [hg.cell, hg.frozen]
      simp [hl]
    unfold Oper.wp execOp
    have hr : (Instr.storeAt ty (.pointer (some ⟨b, off, none⟩)) (.int k n)).run P w = .ok () (w.setCell ⟨b, off, none⟩ (.int k n)) := by
      cases hq : P.info? ty with
      | none => simp [hq] at hi
      | some i =>
        have hs : i.size = 1 := by simpa [hq] using hi
        obtain ⟨v0, hv0⟩ := Option.isSome_iff_exists.1 hc.1
        simp [Instr.storeAt, Instr.sureAddr, storeVar, sizeOf, typeInfo, hq, hs, hv0, hc.2, Value.cells, storeCells, go_sem]
    simp only [ho, hx, hy, Sem.run_bind, Sem.run_pure, hr, Result.andThen_ok]
    exact hK _ _ (h _ (hg.set off _) (grown_setCell (World.grownBy.refl _ _) (.inl rfl) _) (by simp [World.setCell]))
end
set_option maxRecDepth 100000 in
set_option maxHeartbeats 4000000 in
theorem take_any {H : Type} {w : World} {Z : Nat → Prop} {p b N : Nat} {t : Int} {f : Hm.St} (h : HumSt H w Z p b N t f) (n : Int) (h100 : t ≤ 100) :
    Calls Try.prog 12 #[.pointer (some ⟨p, 0, none⟩), .int .i64 n] w fun e w' => ∃ v, e = .returned v ∧ HumSt H w' (fun i => Z i ∨ (w.heap.size ≤ i ∧ i < w'.heap.size)) p b N t (Hm.rest n f) ∧ Keeps Z w w' ∧ Own w' w.heap.size 41 3 v (Hm.told n f).length (memsV ((Hm.told n f).map (·.m))) := by
  obtain ⟨⟨F, hF, hf, hFn⟩, hSp, hSb, hSl⟩ := h
  subst hf
  have hsane : Hm.Sane t (rums F) := hF.sane
  have HSN := Lib.hid hsane
  have HF := Lib.hid hF
  have HFn := Lib.hid hFn
  have HS := Lib.hid (And.intro hSp (And.intro hSb hSl))
  have H100 := Lib.hid h100
  obtain ⟨i0, hi, hz0, hz1, hz2⟩ := info_parts info_mem
  clear hsane hF hFn hSp hSb hSl h100
  go_enter Try.func12, Try.ntmps12
  go_wp2_with fail
  refine (sorted_any HF.out).mono ?_
  rintro e w1 ⟨v, rfl, hrow, hb1⟩
  have HB1 := Lib.hid hb1
  have HR := Lib.hid hrow
  clear hb1 hrow
  go_wp2_with fail
  refine (stable_r (F := F) (fun q hq => (mem_allB HSN.out).1 hq) HR.out (fun x q hx => (HF.out.below HB1.out).at_ x q.1 q.2 hx) (fun x q hx => (HF.out.at_ x q.1 q.2 hx).lt) (allB_six F)).mono ?_
  rintro e w2 ⟨rfl, hrow, hg2⟩
  have HB2 := Lib.hid (HB1.out.grown hg2 HB1.out.size fun k hk => (HR.out.lt k hk).1)
  have HR2 := Lib.hid hrow
  obtain ⟨len, hlen⟩ : ∃ len, len = (allB F).length := ⟨_, rfl⟩
  have h6 : len ≤ 6 := by rw [hlen]; exact allB_six F
  obtain ⟨L, hL⟩ : ∃ L, L = ordB F := ⟨_, rfl⟩
  have hLl : L.length = len := by rw [hL, ordB_len, hlen]
  rw [show S (leC cfB) (allB F) = ordB F from rfl, ← hL, ← hlen] at HR2
  have HL := Lib.hid hL
  have HLl := Lib.hid hLl
  have hform : ∃ A c, v = .slice A len c ∧ len ≤ c := by
    rcases row_cases HR2.out with ⟨rfl, h0, _⟩ | ⟨g, cap, rfl, _, _, hc, _⟩
    · exact ⟨none, 0, by rw [h0], by omega⟩
    · exact ⟨_, _, rfl, hc⟩
  obtain ⟨A, c, rfl, hlc⟩ := hform
  clear hg2 HR hL hLl hrow
  obtain ⟨K, hK⟩ : ∃ K : Nat, K = min (max n 0).toNat len := ⟨_, rfl⟩
  have hKK : min (max n 0) (len : Int) = (K : Int) := by omega
  have HK := Lib.hid hK
  have hKl : (K : Int) ≤ (len : Int) := by omega
  have hKc : (K : Int) ≤ (c : Int) := by omega
  clear hK HB1 hlen
  go_wp2_with fail
  --LOOP
  obtain ⟨B, hBe⟩ : ∃ B, B = w2.heap.size := ⟨_, rfl⟩
  have hwB : w.heap.size ≤ B := by rw [hBe]; exact HB2.out.size
  have HBe := Lib.hid hBe
  have HF2 := Lib.hid (HF.out.below HB2.out)
  obtain ⟨A2, hA2⟩ : ∃ A2 : Nat → Prop, A2 = fun i => Z i ∨ (w.heap.size ≤ i ∧ i < B) := ⟨_, rfl⟩
  have HA2 := Lib.hid hA2
  have HPl := Lib.hid (And.intro HF.out.hd.lt HF.out.blt)
  have HNb := Lib.hid (show ¬ A2 b from by
    rw [hA2]
    rintro (h | h)
    · exact HS.out.2.1 h
    · have := HPl.out.2; omega)
  have HFar2 := Lib.hid (show ∀ k, B ≤ k → ¬ A2 k from by
    intro k hk
    rw [hA2]
    rintro (h | h)
    · have := HS.out.2.2 k h; omega
    · omega)
  have HNo2 := Lib.hid (show ∀ v : Value, (∀ k, v.ownBlock = some k → B ≤ k) → v.ownBlock = none ∨ v.ownBlock ≠ some b from by
    intro v hv
    by_cases h : v.ownBlock = some b
    · have := hv b h; have := HPl.out.2; omega
    · exact .inr h)
  clear hBe hA2
  go_loopw [4, 20] (fun v4 i wr => ∃ k : Nat, k ≤ K ∧ i = .int .i64 k ∧ HumAt H wr p b N t ((L.take k).foldl tellB F) ∧ Keeps A2 w2 wr ∧ Own wr B 41 3 v4 k (memsV ((L.take k).map fun q => q.2.m))) (fun _ i _ => K - (RowKit.intOf i).toNat)
  case atStart => exact ⟨0, by omega, rfl, HF2.out, Keeps.refl _ _, Own.nil _ _ _ _⟩
  case round =>
    obtain ⟨k, hk, rfl, hV, hkp, hO2⟩ := hrel
    have hLL := HLl.out
    by_cases hlt : k < K
    · obtain ⟨g, cap, hA, hgb, hgl, _, _⟩ := (own_ofRow HR2.out).form (by omega)
      obtain ⟨rfl, rfl⟩ : A = some ⟨g, 0, none⟩ ∧ c = cap := by simpa using hA
      obtain ⟨Fk, hFk⟩ : ∃ Fk, Fk = (L.take k).foldl tellB F := ⟨_, rfl⟩
      rw [← hFk] at hV
      have hkL : k < L.length := by omega
      obtain ⟨⟨gq, m, kk⟩, hq⟩ : ∃ q : Cell, q = L[k] := ⟨_, rfl⟩
      have hqF : Fk m.n = some (gq, ⟨m, kk⟩) := by
        have hL2 := HL.out
        subst hL2
        have h := told_at HSN.out (k := k) hkL
        rw [← hq, ← hFk] at h
        exact h
      have hsame : SameB F Fk := by
        have hL2 := HL.out
        subst hL2
        rw [hFk]
        exact same_told HSN.out k (by omega)
      have hb3 := hV.sane m.n ⟨m, kk⟩ (by simp [hqF])
      have hmg := (Mem.good_iff _).1 hb3.1
      have HT := Lib.hid (And.intro hb3.2.2.1 hb3.2.2.2)
      have ck : wr.cell? ⟨g, k, none⟩ = some (ptrV gq) := by
        rw [World.cell?_of_block (w := w2) (hkp.block g (by rw [HA2.out]; exact .inr ⟨hgb, by rw [HBe.out]; exact hgl⟩) hgl), (own_ofRow HR2.out).cellAt rfl k (by omega)]
        simp [ptrC, hkL, ← hq]
      simp only [ptrV] at ck
      have hat := hV.at_ _ _ _ hqF
      have r0 := hat.cell' (i := 0) (v := .int .i64 m.n) rfl
      have r1 := hat.cell' (i := 1) (v := .int .i64 m.i) rfl
      have r2 := hat.cell' (i := 2) (v := .int .i64 m.s) rfl
      have hngB : gq < w.heap.size := by
        obtain ⟨r', hr'⟩ := hsame _ _ _ hqF
        exact (HF.out.at_ _ _ _ hr').lt
      have HNg := Lib.hid (show ¬ A2 gq from by
        rw [HA2.out]
        rintro (h | h)
        · obtain ⟨r', hr'⟩ := hsame _ _ _ hqF
          exact HFn.out _ _ _ hr' h
        · omega)
      have HNo := Lib.hid (show ∀ v : Value, (∀ k, v.ownBlock = some k → B ≤ k) → v.ownBlock = none ∨ v.ownBlock ≠ some gq from by
        intro v hv
        by_cases h : v.ownBlock = some gq
        · have := hv gq h; omega
        · exact .inr h)
      have HFar := Lib.hid (show (∀ i, i < w.heap.size → some i ≠ u4.ownBlock) ∧ ∀ x g r, Fk x = some (g, r) → g < w.heap.size from ⟨by
        intro i hi2 e
        have := (hO2.lt i e.symm).1
        omega, by
        intro x g r hx
        obtain ⟨r', hr'⟩ := hsame _ _ _ hx
        exact (HF.out.at_ _ _ _ hr').lt⟩)
      have HVr := Lib.hid hV
      have HKr := Lib.hid hkp
      have HO2 := Lib.hid hO2
      have HFk := Lib.hid hFk
      have HLk := Lib.hid hq
      have HQ := Lib.hid hqF
      have HBq := Lib.hid (show B ≤ wr.heap.size from by rw [HBe.out]; exact hkp.size)
      have i1 : (0 : Int) ≤ (k : Int) := by omega
      have i2 : (k : Int) < (K : Int) := by omega
      have ht100 := H100.out
      have hkk := HT.out
      clear hV hkp hO2 hFk hq hqF hat hb3 hA hsame hngB hLL ht100
      by_cases hk1 : kk = 1
      · subst hk1
        have r3 := (HVr.out.at_ _ _ _ HQ.out).cell' (i := 3) (v := .int .i64 1) rfl
        clear hkk
        go_wp2_with (at_builtin; (refine wpList_append_Own _ rfl (.tmp 24) (.tmp 29) 28 rfl B 41 i0 _ 3 24 Try.underlying28 hi hz0 hz1 hz2 rfl (by omega) _ _ _ rfl (HO2.out.alloc _) ⟨_, 0, none⟩ 1 1 (cellsM m) rfl rfl (three_new _ _) (cellsM_oneCell _) ?_ ?_ ?_ ?_); (focus (unfold maxLen; omega)); (focus omega); (focus (have := HBq.out; simp; omega)); intro v9 w9 hO9 hg9 hat9; have HG9 := Lib.hid ((World.grownBy_alloc wr _ u4.ownBlock).trans hg9); have HO9 := Lib.hid hO9; have HV9 := Lib.hid (HVr.out.kept HG9.out (HFar.out.1 p (by have := HPl.out.1; omega)) (HFar.out.1 b (by have := HPl.out.2; omega)) (fun x g r hx => HFar.out.1 g (HFar.out.2 x g r hx))); have HA9 := Lib.hid (HV9.out.at_ _ _ _ HQ.out); have c3 := HA9.out.cell' (i := 3) (v := .int .i64 1) rfl; have c3f := HA9.out.frozen 3; have c0 := HA9.out.cell' (i := 0) (v := .int .i64 m.n) rfl; clear hO9 hg9 hat9)
        obtain ⟨w12, hw12⟩ : ∃ w12, w12 = w9.setCell ⟨gq, 3, none⟩ (.int .i64 0) := ⟨_, rfl⟩
        rw [← hw12]
        have HG12 := Lib.hid (show w9.grownBy w12 (some gq) by rw [hw12]; exact grown_setCell (World.grownBy.refl _ _) (.inl rfl) _)
        have HA12 := Lib.hid (show At w12 gq 48 (rumC ⟨m, 0⟩) by rw [hw12]; exact HA9.out.set 3 _)
        have d0 := HA12.out.cell' (i := 0) (v := .int .i64 m.n) rfl
        have dp := (HV9.out.hd.grown HG12.out (by intro e; injection e with e; exact (HV9.out.ne.2 _ _ _ HQ.out).1 e.symm)).cell' (i := 1) (v := .map (some b)) rfl
        clear hw12 c3 c0 c3f
        refine wp_region_then (fun w' => ∃ n, w' = w12.drewN n) 9 (by kernel_rfl) (by kernel_rfl) (by kernel_rfl) (by kernel_rfl) (by decide) ⟨1, rfl⟩ ?_
        simp only [List.take_succ_cons, List.take_zero, List.drop_succ_cons, List.drop_zero]
        go_big_quiet_step (exact fun _ => rfl)
        with_reducible refine wpQuiet_val (.pointer (some ⟨p, 0, none⟩)) (by with_unfolding_all rfl) (fun w _ => exec_nil _ (by with_unfolding_all rfl) p 0 (by with_unfolding_all rfl) w) ?_
        simp only [Act.put, List.setIfInBounds_toArray, List.set_cons_zero, List.set_cons_succ]
        iterate 3 (go_big_quiet_step (exact fun _ => rfl))
        with_reducible refine wpQuiet_val (.pointer (some ⟨gq, 0, none⟩)) (by with_unfolding_all rfl) (fun w _ => exec_nil _ (by with_unfolding_all rfl) gq 0 (by with_unfolding_all rfl) w) ?_
        simp only [Act.put, List.setIfInBounds_toArray, List.set_cons_zero, List.set_cons_succ]
        iterate 3 (go_big_quiet_step (exact fun _ => rfl))
        refine wpQuiet_nil ?_
        intro _ hw'
        obtain ⟨nq, rfl⟩ := hw'
        have hm12 := HV9.out.map.kept HG12.out (by intro e; injection e with e; exact (HV9.out.ne.2 _ _ _ HQ.out).2 e.symm)
        have hown : (w12.drewN nq).ownsMap Try.prog 3 readP b N (Sk.mapD (H := H) ptrD fun x => (Fk x).map (·.1)) := hm12
        refine wpList_delete_own _ rfl (.tmp 46) (.tmp 51) 49 3 rfl 55 hum_keyed Try.underlying49 readP b N _ rfl hown (.int .i64 m.n) (.int .i64 m.n) rfl (hum_key (n := m.n) (by omega) (by omega)) ?_
        intro w13 hown13 hturn13
        have hg13 : w12.grownBy w13 (some b) := ⟨hturn13.grown.os, hturn13.grown.tape, hturn13.grown.output, hturn13.grown.size, hturn13.grown.block⟩
        have HF13 := Lib.hid (HV9.out.tell1 (q := (gq, ⟨m, 1⟩)) HQ.out rfl HG12.out hown13 hg13)
        have HK13 := Lib.hid ((Keeps.grown HG9.out fun k hk => HFar2.out k (HO2.out.lt k hk).1).trans ((Keeps.ofGrown HG12.out HNg.out).trans (Keeps.ofGrown hg13 HNb.out)))
        have HO13 := Lib.hid ((HO9.out.grown HG12.out (HNo.out v9 fun k hk => (HO9.out.lt k hk).1)).grown hg13 (HNo2.out v9 fun k hk => (HO9.out.lt k hk).1))
        clear hown13 hturn13 hg13 hown hm12
        refine wpList_nil ?_
        go_wp2_with fail
        go_roundw
        case rel =>
          refine ⟨k + 1, by omega, by go_num, ?_, HKr.out.trans HK13.out, ?_⟩
          · rw [take_snoc L k (by omega), ← HLk.out, List.foldl_append, ← HFk.out]
            exact HF13.out
          · rw [take_snoc L k (by omega), ← HLk.out, List.map_append]
            have h := HO13.out
            have e : memsV (((L.take k).map fun q => q.2.m) ++ [((gq, ⟨m, 1⟩) : Cell)].map fun q => q.2.m) = memsV ((L.take k).map fun q => q.2.m) ++ cellsM m := by simp [memsV]
            rw [e]
            exact h
        case measure => simp [RowKit.intOf]; omega
      · have hk2 : ¬ (kk - 1 = 0) := by omega
        have h100 : kk ≤ 100 := Int.le_trans hkk.2 H100.out
        have h1 : 1 ≤ kk := hkk.1
        have r3 := (HVr.out.at_ _ _ _ HQ.out).cell' (i := 3) (v := .int .i64 kk) rfl
        clear hkk
        go_wp2_with (at_builtin; (refine wpList_append_Own _ rfl (.tmp 24) (.tmp 29) 28 rfl B 41 i0 _ 3 24 Try.underlying28 hi hz0 hz1 hz2 rfl (by omega) _ _ _ rfl (HO2.out.alloc _) ⟨_, 0, none⟩ 1 1 (cellsM m) rfl rfl (three_new _ _) (cellsM_oneCell _) ?_ ?_ ?_ ?_); (focus (unfold maxLen; omega)); (focus omega); (focus (have := HBq.out; simp; omega)); intro v9 w9 hO9 hg9 hat9; have HG9 := Lib.hid ((World.grownBy_alloc wr _ u4.ownBlock).trans hg9); have HO9 := Lib.hid hO9; have HV9 := Lib.hid (HVr.out.kept HG9.out (HFar.out.1 p (by have := HPl.out.1; omega)) (HFar.out.1 b (by have := HPl.out.2; omega)) (fun x g r hx => HFar.out.1 g (HFar.out.2 x g r hx))); have HA9 := Lib.hid (HV9.out.at_ _ _ _ HQ.out); have c3 := HA9.out.cell' (i := 3) (v := .int .i64 kk) rfl; have c3f := HA9.out.frozen 3; have c0 := HA9.out.cell' (i := 0) (v := .int .i64 m.n) rfl; clear hO9 hg9 hat9)
        obtain ⟨w12, hw12⟩ : ∃ w12, w12 = w9.setCell ⟨gq, 3, none⟩ (.int .i64 (kk - 1)) := ⟨_, rfl⟩
        rw [← hw12]
        have HG12 := Lib.hid (show w9.grownBy w12 (some gq) by rw [hw12]; exact grown_setCell (World.grownBy.refl _ _) (.inl rfl) _)
        have HA12 := Lib.hid (show At w12 gq 48 (rumC ⟨m, kk - 1⟩) by rw [hw12]; exact HA9.out.set 3 _)
        have d0 := HA12.out.cell' (i := 0) (v := .int .i64 m.n) rfl
        have dp := (HV9.out.hd.grown HG12.out (by intro e; injection e with e; exact (HV9.out.ne.2 _ _ _ HQ.out).1 e.symm)).cell' (i := 1) (v := .map (some b)) rfl
        clear hw12 c3 c0 c3f
        have HF13 := Lib.hid (HV9.out.tell (q := (gq, ⟨m, kk⟩)) HQ.out hk1 HA12.out HG12.out)
        have HK13 := Lib.hid ((Keeps.grown HG9.out fun k hk => HFar2.out k (HO2.out.lt k hk).1).trans (Keeps.ofGrown HG12.out HNg.out))
        have HO13 := Lib.hid (HO9.out.grown HG12.out (HNo.out v9 fun k hk => (HO9.out.lt k hk).1))
        go_roundw
        case rel =>
          refine ⟨k + 1, by omega, by go_num, ?_, HKr.out.trans HK13.out, ?_⟩
          · rw [take_snoc L k (by omega), ← HLk.out, List.foldl_append, ← HFk.out]
            exact HF13.out
          · rw [take_snoc L k (by omega), ← HLk.out, List.map_append]
            have h := HO13.out
            have e : memsV (((L.take k).map fun q => q.2.m) ++ [((gq, ⟨m, kk⟩) : Cell)].map fun q => q.2.m) = memsV ((L.take k).map fun q => q.2.m) ++ cellsM m := by simp [memsV]
            rw [e]
            exact h
        case measure => simp [RowKit.intOf]; omega
    · have hkK : k = K := by omega
      have HV2 := Lib.hid hV
      have HK2 := Lib.hid hkp
      have HO2 := Lib.hid hO2
      have HKK := Lib.hid hkK
      clear hV hkp hO2 hkK
      go_wp2_with fail
      go_ret
      have htold : ((ordB F).take K).map (·.2) = Hm.told n (rums F) := by
        unfold Hm.told
        rw [← ordB_rums, List.map_take, HK.out, ← List.map_take, ← List.map_take]
        congr 1
        rw [show len = (ordB F).length from by rw [← HL.out]; exact HLl.out.symm]
        rcases Nat.le_total (max n 0).toNat (ordB F).length with h | h
        · rw [Nat.min_eq_left h]
        · rw [Nat.min_eq_right h, List.take_length, List.take_of_length_le h]
      have hrums : rums ((L.take k).foldl tellB F) = Hm.rest n (rums F) := by
        rw [rums_foldl, HKK.out, HL.out, htold]; rfl
      have hsz := HB2.out.size
      refine ⟨u4, rfl, ⟨⟨_, HV2.out, hrums, ?_⟩, ?_, ?_, fun i hi2 => ?_⟩, ?_, ?_⟩
      · intro x g r hx hg
        have hs : SameB F ((L.take k).foldl tellB F) := by
          rw [HL.out]
          exact same_told HSN.out k (by rw [← HL.out]; omega)
        obtain ⟨r', hr'⟩ := hs _ _ _ hx
        rcases hg with hg | hg
        · exact HFn.out _ _ _ hr' hg
        · have := (HF.out.at_ _ _ _ hr').lt; omega
      · rintro (h | h)
        · exact HS.out.1 h
        · have := HPl.out.1; omega
      · rintro (h | h)
        · exact HS.out.2.1 h
        · have := HPl.out.2; omega
      · rcases hi2 with hi2 | hi2
        · have h1 := HS.out.2.2 i hi2
          have h2 := HK2.out.size
          omega
        · exact hi2.2
      · exact (Keeps.below' HB2.out HS.out.2.2).trans (HK2.out.mono fun i hi2 => by rw [HA2.out]; exact .inl hi2)
      · have h := HO2.out
        have hm : (L.take k).map (fun q => q.2.m) = (Hm.told n (rums F)).map (·.m) := by
          rw [← htold, List.map_map, HKK.out, HL.out]; rfl
        have hl : k = (Hm.told n (rums F)).length := by
          rw [← htold, List.length_map, List.length_take, HKK.out, ← HL.out]; omega
        rw [hm] at h
        rw [← hl]
        exact h.rebase hwB
end Go.Proofs.Ytepnepgjlnoabaa
