/- Layer 12, the texts ScY to ScZc joined: what the functions that a scout reaches do with memory, each told once. -/
import Derived.Test.YtghefmppjdneoaaGrpK
namespace Go.Proofs.Ytghefmppjdneoaa
open Go.Proofs Stab Go.Shelf Go.RowKit Go.Lib Go.Sort Go.Maps

theorem exec_eqm {ρ : Operand → Value} {o : Oper} (x y : Operand) (ho : o.op = .binOp .eql 38 x y 38) (a b : Mem) (hx : ρ x = memV a) (hy : ρ y = memV b) {v : Bool} (hv : decide (a = b) = v) (w : World) : (execOp ρ o).run Try.prog w = .ok (.value (.bool v)) w := by
  unfold execOp
  simp only [ho, hx, hy, Sem.run_bind, Sem.run_pure, run_eqGuard_mem, Result.andThen_ok, run_eql_mem, hv]
theorem built_mem (n i : Int) : Try.prog.built 38 [(0, .int .i64 n), (1, .int .i64 i)] = some #[.int .i64 n, .int .i64 i, .int .i64 0] := by kernel_rfl
theorem run_addI (a b : Int) (h1 : 0 ≤ a ∧ a ≤ 2000000000) (h2 : 0 ≤ b ∧ b ≤ 2000000000) (w : World) : (binOp .add 3 (.int .i64 a) (.int .i64 b)).run Try.prog w = .ok (.int .i64 (a + b)) w := by
  go_simp
  rw [IntKind.wrap_i64]
  omega
theorem rumour_far {t : Sct} {m : Mem} (h : t.nodes < m.n) : t.rumour m = t := by unfold Sct.rumour; rw [if_pos h]
theorem rumour_other {t : Sct} {m : Mem} (h : m.n ≤ t.nodes) (h2 : m.n ≠ t.me) : t.rumour m = t.learn m := by unfold Sct.rumour; rw [if_neg (by omega), if_pos h2]
theorem rumour_no {t : Sct} {m : Mem} (h : m.n ≤ t.nodes) (h2 : m.n = t.me) (h3 : t.left = true ∨ m.good = false ∨ m = t.own) : t.rumour m = t := by unfold Sct.rumour; rw [if_neg (by omega), if_neg (fun e => e h2), if_pos h3]
theorem rum3 {t : Sct} {m : Mem} (h3 : t.left = false ∧ m.good = true ∧ m ≠ t.own) : ¬ (t.left = true ∨ m.good = false ∨ m = t.own) := by
  rintro (h | h | h)
  · rw [h3.1] at h; cases h
  · rw [h3.2.1] at h; cases h
  · exact h3.2.2 h
theorem rumour_push {t : Sct} {m : Mem} (h : m.n ≤ t.nodes) (h2 : m.n = t.me) (h3 : t.left = false ∧ m.good = true ∧ m ≠ t.own) (h4 : t.own.above m = true) : t.rumour m = { t with f := Hm.push1 5 t.f t.own } := by unfold Sct.rumour; rw [if_neg (by omega), if_neg (fun e => e h2), if_neg (rum3 h3), if_pos h4]
theorem rumour_new {t : Sct} {m : Mem} (h : m.n ≤ t.nodes) (h2 : m.n = t.me) (h3 : t.left = false ∧ m.good = true ∧ m ≠ t.own) (h4 : t.own.above m = false) (h5 : m.i < 1073741824) : t.rumour m = t.learn ⟨t.me, m.i + 1, 0⟩ := by unfold Sct.rumour; rw [if_neg (by omega), if_neg (fun e => e h2), if_neg (rum3 h3), if_neg (by rw [h4]; decide), if_pos h5]
theorem rumour_top {t : Sct} {m : Mem} (h : m.n ≤ t.nodes) (h2 : m.n = t.me) (h3 : t.left = false ∧ m.good = true ∧ m ≠ t.own) (h4 : t.own.above m = false) (h5 : 1073741824 ≤ m.i) : t.rumour m = t := by unfold Sct.rumour; rw [if_neg (by omega), if_neg (fun e => e h2), if_neg (rum3 h3), if_neg (by rw [h4]; decide), if_neg (by omega)]
section
variable {H : Type} {w w' w0 : World} {O : Nat → Prop} {M : Nat} {b : Blk} {t : Sct} {s : Nat}
theorem Grew.getMe (h : Grew H w0 w O M s t) : Calls Try.prog 16 #[.pointer (some ⟨s, 0, none⟩)] w fun e w' => e = .returned (memV t.own) ∧ Below w.heap.size w w' := by
  obtain ⟨b', O', rfl, hS, _⟩ := h
  exact me_any hS
theorem Grew.learn (h : Grew H w0 w O M s t) (hM : M < 1000000) (m : Mem) (hm : -9223372036854775808 ≤ m.n ∧ m.n ≤ 9223372036854775807) : Calls Try.prog 49 #[.pointer (some ⟨s, 0, none⟩), memV m] w fun e w' => e = .returned (.tuple #[]) ∧ Grew H w0 w' O (M + 1) s (t.learn m) :=
  h.calls fun b' O' e hS => by subst e; exact learn_any hS hM m hm
set_option maxRecDepth 100000 in
set_option maxHeartbeats 2000000 in
theorem Grew.rumour (h : Grew H w0 w O M s t) (hM : M < 1000000) (m : Mem) (hm : -9223372036854775808 ≤ m.n ∧ m.n ≤ 9223372036854775807) : Calls Try.prog 34 #[.pointer (some ⟨s, 0, none⟩), memV m] w fun e w' => e = .returned (.tuple #[]) ∧ Grew H w0 w' O (M + 1) s (t.rumour m) := by
  obtain ⟨W0, hW0⟩ : ∃ W0, W0 = w.alloc (.cells #[.int .i64 m.n, .int .i64 m.i, .int .i64 m.s] 38) := ⟨_, rfl⟩
  have hA0 : At W0 w.heap.size 38 (cellsM m) := by rw [hW0]; exact memAt w m
  have hb0 : Below w.heap.size w W0 := by rw [hW0]; exact (Below.refl _ _).alloc (Nat.le_refl _) _
  have hG0 := h.on hb0
  have HME := Lib.hid hG0.getMe
  obtain ⟨ow, how⟩ : ∃ ow, ow = t.own := ⟨_, rfl⟩
  rw [← how] at HME
  obtain ⟨me, hme⟩ : ∃ me, me = t.me := ⟨_, rfl⟩
  obtain ⟨nd, hnd⟩ : ∃ nd, nd = t.nodes := ⟨_, rfl⟩
  obtain ⟨lf, hlf⟩ : ∃ lf, lf = t.left := ⟨_, rfl⟩
  have HE := Lib.hid (And.intro how (And.intro hme (And.intro hnd hlf)))
  obtain ⟨q1, hq1⟩ : ∃ q1, q1 = w.heap.size := ⟨_, rfl⟩
  rw [← hq1] at hA0
  have HA0 := Lib.hid hA0
  have HG0 := Lib.hid hG0
  have HW0 := Lib.hid hW0
  have HQ1 := Lib.hid hq1
  unfold memV at HME ⊢
  have HMN := Lib.hid hm
  clear h hA0 hb0 hG0 hW0 how hme hnd hlf hq1 hm
  go_enter Try.func34, Try.ntmps34
  go_wp2_with fail
  rw [← HW0.out, ← HQ1.out]
  refine HME.out.mono ?_
  rintro e w2 ⟨rfl, hb2⟩
  obtain ⟨W3, hW3⟩ : ∃ W3, W3 = w2.alloc (.cells #[.int .i64 ow.n, .int .i64 ow.i, .int .i64 ow.s] 38) := ⟨_, rfl⟩
  have hA3 : At W3 w2.heap.size 38 (cellsM ow) := by rw [hW3]; exact memAt w2 ow
  have hb3 : Below w2.heap.size w2 W3 := by rw [hW3]; exact (Below.refl _ _).alloc (Nat.le_refl _) _
  obtain ⟨q2, hq2⟩ : ∃ q2, q2 = w2.heap.size := ⟨_, rfl⟩
  rw [← hq2] at hA3
  have hB3 : Below W0.heap.size W0 W3 := hb2.trans (hb3.mono hb2.size)
  have hA1 := HA0.out.below hB3 HA0.out.lt
  have HA1 := Lib.hid hA1
  have HA3 := Lib.hid hA3
  have HG := Lib.hid (show ∀ W, Behind W3 W → Grew H w0 W O M s t from fun W h => HG0.out.on (hB3.trans (Below.mono h hB3.size)))
  have HM0 := Lib.hid (show ∀ W, Behind W3 W → W.cell? ⟨q1, 0, none⟩ = some (.int .i64 m.n) from fun W h => (hA1.below h hA1.lt).cell' rfl)
  have HS6 := Lib.hid (show ∀ W, Behind W3 W → W.cell? ⟨s, 6, none⟩ = some (.int .i64 me) from fun W h => by rw [HE.out.2.1]; exact (HG.out W h).cell (i := 6) (fun _ => rfl))
  have HS7 := Lib.hid (show ∀ W, Behind W3 W → W.cell? ⟨s, 7, none⟩ = some (.int .i64 nd) from fun W h => by rw [HE.out.2.2.1]; exact (HG.out W h).cell (i := 7) (fun _ => rfl))
  have HW3 := Lib.hid hW3
  have HQ2 := Lib.hid hq2
  clear hW3 hA3 hb3 hq2 hb2 hB3 hA1 HME HA0 HG0
  go_wp2_with fail
  rw [← HW3.out, ← HQ2.out]
  by_cases hgn : nd < m.n
  · have HGN := Lib.hid (run_gtrI1 m.n nd hgn)
    have HF := Lib.hid (show t.rumour m = t from rumour_far (by rw [← HE.out.2.2.1]; exact hgn))
    clear hgn
    refine wp_region_class (Behind W3) (by kernel_rfl) (by kernel_rfl) ((Below.refl _ _).drew) ?_
    iterate 8 (first
      | go_big_quiet_skip
      | ((with_reducible refine wpQuiet_val (.pointer (some ⟨s, 0, none⟩)) (by with_unfolding_all rfl) (fun w _ => exec_nil _ (by with_unfolding_all rfl) s 0 (by with_unfolding_all rfl) w) ?_); simp only [Act.put, List.setIfInBounds_toArray, List.set_cons_zero, List.set_cons_succ])
      | ((with_reducible refine wpQuiet_val (.pointer (some ⟨s, 7, none⟩)) (by with_unfolding_all rfl) (fun w _ => exec_s3 _ (by with_unfolding_all rfl) s (by with_unfolding_all rfl) w) ?_); simp only [Act.put, List.setIfInBounds_toArray, List.set_cons_zero, List.set_cons_succ])
      | ((with_reducible refine wpQuiet_load1 (.int .i64 m.n) (by with_unfolding_all rfl) 3 _ (by with_unfolding_all rfl) .i64 Try.underlying3 q1 (0) (by with_unfolding_all rfl) (fun w h => HM0.out w h) ?_); simp only [Act.put, List.setIfInBounds_toArray, List.set_cons_zero, List.set_cons_succ])
      | ((with_reducible refine wpQuiet_load1 (.int .i64 nd) (by with_unfolding_all rfl) 3 _ (by with_unfolding_all rfl) .i64 Try.underlying3 s (7) (by with_unfolding_all rfl) (fun w h => HS7.out w h) ?_); simp only [Act.put, List.setIfInBounds_toArray, List.set_cons_zero, List.set_cons_succ])
      | ((with_reducible refine wpQuiet_bin (by with_unfolding_all rfl) .gtr 3 _ _ _ (by with_unfolding_all rfl) (.int .i64 m.n) (.int .i64 nd) (.bool true) (by with_unfolding_all rfl) (by with_unfolding_all rfl) (fun w => run_guardI w _ _ _ _ _) (fun w => HGN.out w) ?_); simp only [Act.put, List.setIfInBounds_toArray, List.set_cons_zero, List.set_cons_succ])
      | (go_big_quiet_step (exact fun _ => rfl)))
    with_reducible refine wpQuiet_nil ?_
    intro wx hwx
    have Hwx := Lib.hid hwx
    clear hwx
    go_wp2_with fail
    go_end0
    rw [HF.out]
    exact ⟨rfl, (HG.out _ Hwx.out).mono (Nat.le_succ _)⟩
  · have HGN := Lib.hid (run_gtrI0 m.n nd (by omega))
    have HND := Lib.hid (show m.n ≤ t.nodes by rw [← HE.out.2.2.1]; omega)
    clear hgn
    refine wp_region_class (Behind W3) (by kernel_rfl) (by kernel_rfl) ((Below.refl _ _).drew) ?_
    iterate 8 (first
      | go_big_quiet_skip
      | ((with_reducible refine wpQuiet_val (.pointer (some ⟨s, 0, none⟩)) (by with_unfolding_all rfl) (fun w _ => exec_nil _ (by with_unfolding_all rfl) s 0 (by with_unfolding_all rfl) w) ?_); simp only [Act.put, List.setIfInBounds_toArray, List.set_cons_zero, List.set_cons_succ])
      | ((with_reducible refine wpQuiet_val (.pointer (some ⟨s, 7, none⟩)) (by with_unfolding_all rfl) (fun w _ => exec_s3 _ (by with_unfolding_all rfl) s (by with_unfolding_all rfl) w) ?_); simp only [Act.put, List.setIfInBounds_toArray, List.set_cons_zero, List.set_cons_succ])
      | ((with_reducible refine wpQuiet_load1 (.int .i64 m.n) (by with_unfolding_all rfl) 3 _ (by with_unfolding_all rfl) .i64 Try.underlying3 q1 (0) (by with_unfolding_all rfl) (fun w h => HM0.out w h) ?_); simp only [Act.put, List.setIfInBounds_toArray, List.set_cons_zero, List.set_cons_succ])
      | ((with_reducible refine wpQuiet_load1 (.int .i64 nd) (by with_unfolding_all rfl) 3 _ (by with_unfolding_all rfl) .i64 Try.underlying3 s (7) (by with_unfolding_all rfl) (fun w h => HS7.out w h) ?_); simp only [Act.put, List.setIfInBounds_toArray, List.set_cons_zero, List.set_cons_succ])
      | ((with_reducible refine wpQuiet_bin (by with_unfolding_all rfl) .gtr 3 _ _ _ (by with_unfolding_all rfl) (.int .i64 m.n) (.int .i64 nd) (.bool false) (by with_unfolding_all rfl) (by with_unfolding_all rfl) (fun w => run_guardI w _ _ _ _ _) (fun w => HGN.out w) ?_); simp only [Act.put, List.setIfInBounds_toArray, List.set_cons_zero, List.set_cons_succ])
      | (go_big_quiet_step (exact fun _ => rfl)))
    with_reducible refine wpQuiet_nil ?_
    intro wx hwx
    have Hwx := Lib.hid hwx
    clear hwx
    go_wp2_with fail
    by_cases hne : m.n = me
    · have HNE := Lib.hid (show ∀ w, (binOp .neq 3 (.int .i64 m.n) (.int .i64 me)).run Try.prog w = .ok (.bool false) w from by rw [hne]; exact run_neqI0 _)
      have HN := Lib.hid (show m.n = t.me by rw [← HE.out.2.1]; exact hne)
      clear hne
      refine wp_region_class (Behind W3) (by kernel_rfl) (by kernel_rfl) ((show Behind W3 wx.drew from Below.drew Hwx.out)) ?_
      iterate 8 (first
        | go_big_quiet_skip
        | ((with_reducible refine wpQuiet_val (.pointer (some ⟨s, 0, none⟩)) (by with_unfolding_all rfl) (fun w _ => exec_nil _ (by with_unfolding_all rfl) s 0 (by with_unfolding_all rfl) w) ?_); simp only [Act.put, List.setIfInBounds_toArray, List.set_cons_zero, List.set_cons_succ])
        | ((with_reducible refine wpQuiet_val (.pointer (some ⟨s, 6, none⟩)) (by with_unfolding_all rfl) (fun w _ => exec_s2 _ (by with_unfolding_all rfl) s (by with_unfolding_all rfl) w) ?_); simp only [Act.put, List.setIfInBounds_toArray, List.set_cons_zero, List.set_cons_succ])
        | ((with_reducible refine wpQuiet_load1 (.int .i64 m.n) (by with_unfolding_all rfl) 3 _ (by with_unfolding_all rfl) .i64 Try.underlying3 q1 (0) (by with_unfolding_all rfl) (fun w h => HM0.out w h) ?_); simp only [Act.put, List.setIfInBounds_toArray, List.set_cons_zero, List.set_cons_succ])
        | ((with_reducible refine wpQuiet_load1 (.int .i64 me) (by with_unfolding_all rfl) 3 _ (by with_unfolding_all rfl) .i64 Try.underlying3 s (6) (by with_unfolding_all rfl) (fun w h => HS6.out w h) ?_); simp only [Act.put, List.setIfInBounds_toArray, List.set_cons_zero, List.set_cons_succ])
        | ((with_reducible refine wpQuiet_bin (by with_unfolding_all rfl) .neq 3 _ _ _ (by with_unfolding_all rfl) (.int .i64 m.n) (.int .i64 me) (.bool false) (by with_unfolding_all rfl) (by with_unfolding_all rfl) (fun w => run_guardI w _ _ _ _ _) (fun w => HNE.out w) ?_); simp only [Act.put, List.setIfInBounds_toArray, List.set_cons_zero, List.set_cons_succ])
        | (go_big_quiet_step (exact fun _ => rfl)))
      with_reducible refine wpQuiet_nil ?_
      intro wz hwz
      have Hwz := Lib.hid hwz
      clear hwz
      have hAz := HA1.out.below Hwz.out HA1.out.lt
      have hOz := HA3.out.below Hwz.out HA3.out.lt
      have c0 := hAz.cell' (i := 0) (v := .int .i64 m.n) rfl
      have c1 := hAz.cell' (i := 1) (v := .int .i64 m.i) rfl
      have c2 := hAz.cell' (i := 2) (v := .int .i64 m.s) rfl
      have e0 := hOz.cell' (i := 0) (v := .int .i64 ow.n) rfl
      have e1 := hOz.cell' (i := 1) (v := .int .i64 ow.i) rfl
      have e2 := hOz.cell' (i := 2) (v := .int .i64 ow.s) rfl
      have s13 : wz.cell? ⟨s, 13, none⟩ = some (.bool lf) := by rw [HE.out.2.2.2]; exact (HG.out _ Hwz.out).cell (i := 13) (fun _ => rfl)
      clear hAz hOz
      cases lf
      · cases hgd : m.good
        · have HF := Lib.hid (show t.rumour m = t from rumour_no HND.out HN.out (.inr (.inl hgd)))
          have HGD := Lib.hid (good_at m false hgd)
          unfold memV at HGD
          clear hgd
          go_wp2_with fail
          refine (HGD.out _).mono ?_
          rintro e w5 ⟨rfl, hb5⟩
          have HG5 := Lib.hid ((HG.out _ Hwz.out).on hb5)
          clear hb5 HGD
          go_wp2_with fail
          go_end0
          rw [HF.out]
          exact ⟨rfl, HG5.out.mono (Nat.le_succ _)⟩
        · have HGD := Lib.hid (good_at m true hgd)
          unfold memV at HGD
          have HGM := Lib.hid hgd
          clear hgd
          go_wp2_with fail
          refine (HGD.out _).mono ?_
          rintro e w5 ⟨rfl, hb5⟩
          have HB5 := Lib.hid (show Behind W3 w5 from Below.trans Hwz.out (Below.mono hb5 (Below.size Hwz.out)))
          have hAz := HA1.out.below HB5.out HA1.out.lt
          have hOz := HA3.out.below HB5.out HA3.out.lt
          have c0 := hAz.cell' (i := 0) (v := .int .i64 m.n) rfl
          have c1 := hAz.cell' (i := 1) (v := .int .i64 m.i) rfl
          have c2 := hAz.cell' (i := 2) (v := .int .i64 m.s) rfl
          have e0 := hOz.cell' (i := 0) (v := .int .i64 ow.n) rfl
          have e1 := hOz.cell' (i := 1) (v := .int .i64 ow.i) rfl
          have e2 := hOz.cell' (i := 2) (v := .int .i64 ow.s) rfl
          clear hb5 HGD hAz hOz s13
          by_cases hmo : m = ow
          · have HF := Lib.hid (show t.rumour m = t from rumour_no HND.out HN.out (.inr (.inr (by rw [← HE.out.1]; exact hmo))))
            have HMO := Lib.hid (decide_eq_true hmo)
            clear hmo
            go_wp2_with (first
              | (with_reducible refine wpList_val (.bool true) (by with_unfolding_all rfl) (exec_eqm _ _ (by with_unfolding_all rfl) m ow (by with_unfolding_all rfl) (by with_unfolding_all rfl) HMO.out _) ?_))
            go_end0
            rw [HF.out]
            exact ⟨rfl, (HG.out _ HB5.out).mono (Nat.le_succ _)⟩
          · have HMO := Lib.hid (decide_eq_false hmo)
            have H3 := Lib.hid (show t.left = false ∧ m.good = true ∧ m ≠ t.own from ⟨HE.out.2.2.2.symm, HGM.out, by rw [← HE.out.1]; exact hmo⟩)
            clear hmo
            go_wp2_with (first
              | (with_reducible refine wpList_val (.bool false) (by with_unfolding_all rfl) (exec_eqm _ _ (by with_unfolding_all rfl) m ow (by with_unfolding_all rfl) (by with_unfolding_all rfl) HMO.out _) ?_))
            cases hab : ow.above m
            · have HAB := Lib.hid (above_at ow m false hab)
              have HA4 := Lib.hid (show t.own.above m = false by rw [← HE.out.1]; exact hab)
              clear hab
              refine (HAB.out _).mono ?_
              rintro e w6 ⟨rfl, hb6⟩
              have HB6 := Lib.hid (show Behind W3 w6 from Below.trans HB5.out (Below.mono hb6 (Below.size HB5.out)))
              have c1 := (HA1.out.below HB6.out HA1.out.lt).cell' (i := 1) (v := .int .i64 m.i) rfl
              clear hb6 HAB e0 e1 e2 c0 c2
              by_cases h5 : m.i < 1073741824
              · have HF := Lib.hid (show t.rumour m = t.learn ⟨me, m.i + 1, 0⟩ by rw [HE.out.2.1]; exact rumour_new HND.out HN.out H3.out HA4.out h5)
                have hgi := (Mem.good_iff m).1 HGM.out
                have HADD := Lib.hid (run_addI m.i 1 ⟨hgi.2.2.1, by omega⟩ (by decide))
                have HM1 := Lib.hid (show ∀ W, Behind w6 W → W.cell? ⟨q1, 1, none⟩ = some (.int .i64 m.i) from fun W h => (HA1.out.below (Below.trans HB6.out (Below.mono h (Below.size HB6.out))) HA1.out.lt).cell' rfl)
                have HS6b := Lib.hid (show ∀ W, Behind w6 W → W.cell? ⟨s, 6, none⟩ = some (.int .i64 me) from fun W h => HS6.out W (Below.trans HB6.out (Below.mono h (Below.size HB6.out))))
                have HL := Lib.hid (fun W (h : Behind w6 W) => (HG.out W (Below.trans HB6.out (Below.mono h (Below.size HB6.out)))).learn hM ⟨me, m.i + 1, 0⟩ (by rw [HE.out.2.1]; have := (HG.out _ HB6.out).lim.me; exact ⟨by show _ ≤ t.me; omega, by show t.me ≤ _; omega⟩))
                unfold memV at HL
                clear hgi
                go_wp2_with fail
                clear c1
                refine wp_region_then (Behind w6) 9 (by kernel_rfl) (by kernel_rfl) (by kernel_rfl) (by kernel_rfl) (by decide) (Below.refl _ _).drew ?_
                simp only [List.take_succ_cons, List.take_zero, List.drop_succ_cons, List.drop_zero]
                iterate 9 (first
                  | go_big_quiet_skip
                  | ((with_reducible refine wpQuiet_val (.pointer (some ⟨s, 0, none⟩)) (by with_unfolding_all rfl) (fun w _ => exec_nil _ (by with_unfolding_all rfl) s 0 (by with_unfolding_all rfl) w) ?_); simp only [Act.put, List.setIfInBounds_toArray, List.set_cons_zero, List.set_cons_succ])
                  | ((with_reducible refine wpQuiet_val (.pointer (some ⟨s, 6, none⟩)) (by with_unfolding_all rfl) (fun w _ => exec_s2 _ (by with_unfolding_all rfl) s (by with_unfolding_all rfl) w) ?_); simp only [Act.put, List.setIfInBounds_toArray, List.set_cons_zero, List.set_cons_succ])
                  | ((with_reducible refine wpQuiet_load1 (.int .i64 me) (by with_unfolding_all rfl) 3 _ (by with_unfolding_all rfl) .i64 Try.underlying3 s (6) (by with_unfolding_all rfl) (fun w h => HS6b.out w h) ?_); simp only [Act.put, List.setIfInBounds_toArray, List.set_cons_zero, List.set_cons_succ])
                  | ((with_reducible refine wpQuiet_load1 (.int .i64 m.i) (by with_unfolding_all rfl) 3 _ (by with_unfolding_all rfl) .i64 Try.underlying3 q1 (1) (by with_unfolding_all rfl) (fun w h => HM1.out w h) ?_); simp only [Act.put, List.setIfInBounds_toArray, List.set_cons_zero, List.set_cons_succ])
                  | ((with_reducible refine wpQuiet_bin (by with_unfolding_all rfl) .add 3 _ _ _ (by with_unfolding_all rfl) (.int .i64 m.i) (.int .i64 1) (.int .i64 (m.i + 1)) (by with_unfolding_all rfl) (by with_unfolding_all rfl) (fun w => run_guardI w _ _ _ _ _) (fun w => HADD.out w) ?_); simp only [Act.put, List.setIfInBounds_toArray, List.set_cons_zero, List.set_cons_succ])
                  | ((with_reducible refine wpQuiet_val (.agg #[.int .i64 me, .int .i64 (m.i + 1), .int .i64 0]) (by with_unfolding_all rfl) (fun w _ => exec_build 38 #[(0, .tmp 61), (1, .tmp 64)] _ (by with_unfolding_all rfl) (built_at' (built_mem me (m.i + 1)) (by with_unfolding_all rfl)) w) ?_); simp only [Act.put, List.setIfInBounds_toArray, List.set_cons_zero, List.set_cons_succ])
                  | (go_big_quiet_step (exact fun _ => rfl)))
                with_reducible refine wpQuiet_nil ?_
                intro w7 hw7
                have HL7 := Lib.hid (HL.out w7 hw7)
                clear HL hw7 HM1
                go_wp2_with fail
                refine HL7.out.mono ?_
                rintro e w8 ⟨rfl, hG8⟩
                have HG8 := Lib.hid hG8
                clear hG8 HL7
                go_wp2_with fail
                go_end0
                rw [HF.out]
                exact ⟨rfl, HG8.out⟩
              · have HF := Lib.hid (show t.rumour m = t from rumour_top HND.out HN.out H3.out HA4.out (by omega))
                go_wp2_with fail
                go_end0
                rw [HF.out]
                exact ⟨rfl, (HG.out _ HB6.out).mono (Nat.le_succ _)⟩
            · have HAB := Lib.hid (above_at ow m true hab)
              have HF := Lib.hid (show t.rumour m = { t with f := Hm.push1 5 t.f ow } by rw [HE.out.1]; exact rumour_push HND.out HN.out H3.out (by rw [← HE.out.1]; exact hab))
              clear hab
              refine (HAB.out _).mono ?_
              rintro e w6 ⟨rfl, hb6⟩
              have HB6 := Lib.hid (show Behind W3 w6 from Below.trans HB5.out (Below.mono hb6 (Below.size HB5.out)))
              clear hb6 HAB e0 e1 e2 c0 c1 c2
              have HG6 := Lib.hid (HG.out _ HB6.out)
              obtain ⟨pv, ph, p0, p1⟩ := HG6.out.ptrs
              have hO6 := HA3.out.below HB6.out HA3.out.lt
              have HL6 := Lib.hid (show LearnS s pv ph q2 ow w6 from ⟨p0, p1, fun j v hv => by rw [Nat.zero_add]; exact hO6.cell' hv, ⟨HG6.out.lt, hO6.lt⟩⟩)
              clear p0 p1 hO6
              go_wp2_with fail
              refine wp_region_mix [(0, true), (5, true), (1, true), (2, true), (3, true), (4, true), (6, false), (7, false)] (LearnS s pv ph q2 ow)
                (by kernel_rfl) (by kernel_rfl) (fun _ _ d _ _ h => by cases d <;> exact h) (by kernel_rfl) (by decide) (HL6.out.below (Below.refl _ _).drew) ?_
              iterate 6 (
                first
                  | (refine wpMix_val (.pointer (some ⟨s, 0, none⟩)) (by with_unfolding_all rfl) (by with_unfolding_all rfl) (fun w _ => exec_nil _ (by with_unfolding_all rfl) s 0 (by with_unfolding_all rfl) w) ?_; simp only [Act.put, List.setIfInBounds_toArray, List.set_cons_zero, List.set_cons_succ])
                  | (refine wpMix_val (.pointer (some ⟨s, 0, none⟩)) (by with_unfolding_all rfl) (by with_unfolding_all rfl) (fun w _ => exec_s0 _ (by with_unfolding_all rfl) s (by with_unfolding_all rfl) w) ?_; simp only [Act.put, List.setIfInBounds_toArray, List.set_cons_zero, List.set_cons_succ])
                  | (refine wpMix_q (by with_unfolding_all rfl) (by kernel_rfl) ?_
                     first
                      | go_big_quiet_skip
                      | ((with_reducible refine wpQuiet_loadP (.pointer (some ⟨ph, 0, none⟩)) (by with_unfolding_all rfl) 71 _ _ (by with_unfolding_all rfl) Try.underlying71 s (1) (by with_unfolding_all rfl) (fun w h => h.h) ?_); simp only [Act.put, List.setIfInBounds_toArray, List.set_cons_zero, List.set_cons_succ])
                      | ((with_reducible refine wpQuiet_loadAll (by with_unfolding_all rfl) 38 _ (by with_unfolding_all rfl) q2 (0) (by with_unfolding_all rfl) (cellsM ow) _ (fun w h => h.m) Try.underlying38 rfl info_memC ?_); simp only [Act.put, List.setIfInBounds_toArray, List.set_cons_zero, List.set_cons_succ])
                      | (go_big_quiet_step (exact fun _ => rfl))
                     refine wpMix_qnil ?_))
              obtain ⟨w4, hw4⟩ : ∃ w4, w4 = w6.drew.alloc (.cells #[.int .i64 ow.n, .int .i64 ow.i, .int .i64 ow.s] 38) := ⟨_, rfl⟩
              have hb4 : Below w6.heap.size w6 w4 := by rw [hw4]; exact (Below.refl _ _).drew.alloc (Nat.le_refl _) _
              have hM4 : MemsIn w4 (some ⟨w6.heap.size, 0, none⟩) [ow] := by rw [hw4]; exact mems_laid w6.drew [ow] _ rfl _ rfl
              have hc4 : ∃ v, w4.cell? ⟨w6.heap.size, 0, none⟩ = some v := by rw [hw4]; exact ⟨_, (memAt w6.drew ow).cell' (i := 0) rfl⟩
              have hs4 : w6.heap.size < w4.heap.size := by rw [hw4]; exact (memAt w6.drew ow).lt
              have hL4 := HL6.out.below hb4
              have hG4 := HG6.out.on hb4
              refine wpMix_put (.slice (some ⟨w6.drew.heap.size, 0, none⟩) 1 1) w4 (by with_unfolding_all rfl) (by with_unfolding_all rfl) (by rw [hw4]; exact exec_one_mem (.tmp 50) ow (by with_unfolding_all rfl) (by with_unfolding_all rfl) _) hL4 ?_
              simp only [Act.put, List.setIfInBounds_toArray, List.set_cons_zero, List.set_cons_succ]
              rw [show w6.drew.heap.size = w6.heap.size from rfl]
              refine wpMix_call 33 [.pointer (some ⟨ph, 0, none⟩), .slice (some ⟨w6.heap.size, 0, none⟩) 1 1] _ (by with_unfolding_all rfl) (by with_unfolding_all rfl) (by with_unfolding_all rfl) (push_step hG4 hM hL4 hM4 hs4 hc4) ?_
              rintro v5 w5 hL5 ⟨rfl, hG5⟩
              simp only [Act.put, List.setIfInBounds_toArray, List.set_cons_zero, List.set_cons_succ]
              refine wpMix_nil ?_
              have HG5 := Lib.hid hG5
              have HL5 := Lib.hid hL5
              clear hG5 hL5 hG4 hL4 hs4 hc4 hM4 hb4 hw4
              go_wp2_with fail
              go_end0
              rw [HF.out]
              exact ⟨rfl, HG5.out⟩
      · have HF := Lib.hid (show t.rumour m = t from rumour_no HND.out HN.out (.inl HE.out.2.2.2.symm))
        go_wp2_with fail
        go_end0
        rw [HF.out]
        exact ⟨rfl, (HG.out _ Hwz.out).mono (Nat.le_succ _)⟩
    · have HNE := Lib.hid (show ∀ w, (binOp .neq 3 (.int .i64 m.n) (.int .i64 me)).run Try.prog w = .ok (.bool true) w from run_neqI1 _ _ hne)
      have HN := Lib.hid (show m.n ≠ t.me by rw [← HE.out.2.1]; exact hne)
      clear hne
      refine wp_region_class (Behind W3) (by kernel_rfl) (by kernel_rfl) ((show Behind W3 wx.drew from Below.drew Hwx.out)) ?_
      iterate 8 (first
        | go_big_quiet_skip
        | ((with_reducible refine wpQuiet_val (.pointer (some ⟨s, 0, none⟩)) (by with_unfolding_all rfl) (fun w _ => exec_nil _ (by with_unfolding_all rfl) s 0 (by with_unfolding_all rfl) w) ?_); simp only [Act.put, List.setIfInBounds_toArray, List.set_cons_zero, List.set_cons_succ])
        | ((with_reducible refine wpQuiet_val (.pointer (some ⟨s, 6, none⟩)) (by with_unfolding_all rfl) (fun w _ => exec_s2 _ (by with_unfolding_all rfl) s (by with_unfolding_all rfl) w) ?_); simp only [Act.put, List.setIfInBounds_toArray, List.set_cons_zero, List.set_cons_succ])
        | ((with_reducible refine wpQuiet_load1 (.int .i64 m.n) (by with_unfolding_all rfl) 3 _ (by with_unfolding_all rfl) .i64 Try.underlying3 q1 (0) (by with_unfolding_all rfl) (fun w h => HM0.out w h) ?_); simp only [Act.put, List.setIfInBounds_toArray, List.set_cons_zero, List.set_cons_succ])
        | ((with_reducible refine wpQuiet_load1 (.int .i64 me) (by with_unfolding_all rfl) 3 _ (by with_unfolding_all rfl) .i64 Try.underlying3 s (6) (by with_unfolding_all rfl) (fun w h => HS6.out w h) ?_); simp only [Act.put, List.setIfInBounds_toArray, List.set_cons_zero, List.set_cons_succ])
        | ((with_reducible refine wpQuiet_bin (by with_unfolding_all rfl) .neq 3 _ _ _ (by with_unfolding_all rfl) (.int .i64 m.n) (.int .i64 me) (.bool true) (by with_unfolding_all rfl) (by with_unfolding_all rfl) (fun w => run_guardI w _ _ _ _ _) (fun w => HNE.out w) ?_); simp only [Act.put, List.setIfInBounds_toArray, List.set_cons_zero, List.set_cons_succ])
        | (go_big_quiet_step (exact fun _ => rfl)))
      with_reducible refine wpQuiet_nil ?_
      intro wz hwz
      have Hwz := Lib.hid hwz
      clear hwz
      have hAz := HA1.out.below Hwz.out HA1.out.lt
      have c0 := hAz.cell' (i := 0) (v := .int .i64 m.n) rfl
      have c1 := hAz.cell' (i := 1) (v := .int .i64 m.i) rfl
      have c2 := hAz.cell' (i := 2) (v := .int .i64 m.s) rfl
      have HF := Lib.hid (show t.rumour m = t.learn m from rumour_other HND.out HN.out)
      have HL := Lib.hid ((HG.out _ Hwz.out).learn hM m HMN.out)
      unfold memV at HL
      clear hAz
      go_wp2_with fail
      refine HL.out.mono ?_
      rintro e w5 ⟨rfl, hG5⟩
      have HG5 := Lib.hid hG5
      clear hG5 HL
      go_wp2_with fail
      go_end0
      rw [HF.out]
      exact ⟨rfl, HG5.out⟩
end
end Go.Proofs.Ytghefmppjdneoaa

namespace Go.Proofs.Ytghefmppjdneoaa
open Go.Proofs Stab Go.Shelf Go.RowKit Go.Lib Go.Sort Go.Maps


theorem flatten_replicate_get (L : List Value) (hL : 0 < L.length) : ∀ (m t : Nat), t < m * L.length → (List.replicate m L).flatten[t]? = L[t % L.length]?
  | 0, t, h => by simp at h
  | m + 1, t, h => by
    rw [List.replicate_succ, List.flatten_cons]
    by_cases ht : t < L.length
    · rw [List.getElem?_append_left ht, Nat.mod_eq_of_lt ht]
    · rw [List.getElem?_append_right (by omega), flatten_replicate_get L hL m _ (by rw [Nat.succ_mul] at h; omega)]
      congr 1
      rw [Nat.mod_eq_sub_mod (a := t) (by omega)]
theorem zeroCells_eq (L : List Value) (hL : 0 < L.length) (m : Nat) : (Builtin.zeroCells L.toArray m).toList = (List.replicate m L).flatten := by
  apply List.ext_getElem?
  intro t
  by_cases ht : t < m * L.length
  · rw [flatten_replicate_get L hL m t ht]
    have hm : t % L.length < L.length := Nat.mod_lt _ hL
    simp [Builtin.zeroCells, ht, hm]
  · have h1 : (List.replicate m L).flatten.length = m * L.length := by simp
    rw [List.getElem?_eq_none (by simp [Builtin.zeroCells]; omega), List.getElem?_eq_none (by omega)]
theorem drop_two {α : Type} (X A Y : List α) : (X ++ (A ++ Y)).drop (X.length + A.length) = Y := by rw [← List.append_assoc, ← List.length_append, List.drop_left]
def relZ : Rel := ⟨0, 0, 0, 0⟩
theorem relC_len (r : Rel) : (relC r).length = 4 := rfl
theorem relC_one (r : Rel) : ∀ v ∈ relC r, v.oneCell' = true := by
  intro v hv
  unfold relC at hv
  simp only [List.mem_cons, List.not_mem_nil, or_false] at hv
  rcases hv with rfl | rfl | rfl | rfl <;> rfl
theorem relsV_len (l : List Rel) : (relsV l).length = l.length * 4 := flat_len relC 4 l fun _ _ => rfl
theorem relsV_at (l : List Rel) (sp : List Value) (i : Nat) (hi : i < l.length) : ∀ j v, (relC l[i])[j]? = some v → (relsV l ++ sp)[i * 4 + j]? = some v := by
  intro j v hv
  have hj : j < 4 := by have := (List.getElem?_eq_some_iff.1 hv).1; rwa [relC_len] at this
  have e : l = l.take i ++ l[i] :: l.drop (i + 1) := by rw [← List.drop_eq_getElem_cons hi, List.take_append_drop]
  have h1 : relsV l = relsV (l.take i) ++ (relC l[i] ++ relsV (l.drop (i + 1))) := by
    conv => lhs; rw [e]
    unfold relsV
    rw [List.flatMap_append, List.flatMap_cons]
  have h2 : (relsV (l.take i)).length = i * 4 := by rw [relsV_len, List.length_take, Nat.min_eq_left (by omega)]
  rw [h1, List.append_assoc, List.getElem?_append_right (by rw [h2]; omega), h2, Nat.add_sub_cancel_left, List.append_assoc, List.getElem?_append_left (by rw [relC_len]; exact hj)]
  exact hv
theorem relsV_set (l : List Rel) (sp : List Value) (i : Nat) (hi : i < l.length) (x : Rel) : (relsV l ++ sp).take (i * 4) ++ relC x ++ (relsV l ++ sp).drop (i * 4 + (relC x).length) = relsV (l.set i x) ++ sp := by
  have e : l = l.take i ++ l[i] :: l.drop (i + 1) := by rw [← List.drop_eq_getElem_cons hi, List.take_append_drop]
  have h1 : relsV l = relsV (l.take i) ++ (relC l[i] ++ relsV (l.drop (i + 1))) := by
    conv => lhs; rw [e]
    unfold relsV
    rw [List.flatMap_append, List.flatMap_cons]
  have h2 : (relsV (l.take i)).length = i * 4 := by rw [relsV_len, List.length_take, Nat.min_eq_left (by omega)]
  have h3 : relsV (l.set i x) = relsV (l.take i) ++ (relC x ++ relsV (l.drop (i + 1))) := by
    rw [List.set_eq_take_append_cons_drop, if_pos hi]
    unfold relsV
    rw [List.flatMap_append, List.flatMap_cons]
  rw [h1, h3, ← h2]
  have e1 : (relsV (l.take i) ++ (relC l[i] ++ relsV (l.drop (i + 1))) ++ sp).take (relsV (l.take i)).length = relsV (l.take i) := by rw [List.append_assoc, List.take_left]
  have e2 : (relsV (l.take i) ++ (relC l[i] ++ relsV (l.drop (i + 1))) ++ sp).drop ((relsV (l.take i)).length + (relC x).length) = relsV (l.drop (i + 1)) ++ sp := by
    rw [List.append_assoc, List.append_assoc, show (relC x).length = (relC l[i]).length from rfl, drop_two]
  rw [e1, e2]
  simp only [List.append_assoc]
theorem info_relay : (Try.prog.info? 113).map (·.size) = some 4 := by kernel_rfl
theorem zeroRel (w : World) : (zeroValue 113).run Try.prog w = .ok (.agg (relC relZ).toArray) w := by kernel_rfl
theorem run_clear_rels {w : World} {q n i c : Nat} {cs : List Value} (h : At w q 113 cs) (hn : n * 4 ≤ cs.length) (hi : i < n) (ty : TypeId) :
    (Builtin.clear_ #[77] ty #[.slice (some ⟨q, i * 4, none⟩) (n - i) c]).run Try.prog w = .ok (.tuple #[]) (w.setCells q (i * 4) (List.replicate (n - i) (relC relZ)).flatten) := by
  have hz : (Builtin.zeroCells (Value.agg (relC relZ).toArray).cells (n - i)).toList = (List.replicate (n - i) (relC relZ)).flatten := zeroCells_eq _ (by decide) _
  have hlen : (List.replicate (n - i) (relC relZ)).flatten.length = (n - i) * 4 := by simp [relC_len]
  have hst : Sem.run Try.prog (storeCells ⟨q, i * 4, none⟩ (Builtin.zeroCells (Value.agg (relC relZ).toArray).cells (n - i)).toList) w = .ok () (w.setCells q (i * 4) (List.replicate (n - i) (relC relZ)).flatten) := by
    rw [hz]
    have := run_storeCells_cells (P := Try.prog) q (i * 4) (List.replicate (n - i) (relC relZ)).flatten 0 w (fun j hj => by rw [Nat.add_zero, h.cell, List.getElem?_eq_getElem (by omega)]; rfl) (fun j hj => h.frozen _) (fun v hv => by
      obtain ⟨l, hl, hv⟩ := List.mem_flatten.1 hv
      rw [(List.mem_replicate.1 hl).2] at hv
      exact relC_one _ v hv)
    simpa using this
  obtain ⟨m, hm⟩ : ∃ m, n - i = m + 1 := ⟨n - i - 1, by omega⟩
  rw [hm] at hst ⊢
  have hst2 : Sem.run Try.prog (storeCells ⟨q, i * 4, none⟩ (Builtin.zeroCells (Value.agg #[.int .i64 0, .int .i64 0, .int .i64 0, .int .i64 0]).cells (m + 1)).toList) w = .ok () (w.setCells q (i * 4) (List.replicate (m + 1) (relC relZ)).flatten) := hst
  simp [Builtin.clear_, run_underlying Try.underlying77]
  rw [hst2]
  rfl
end Go.Proofs.Ytghefmppjdneoaa

namespace Go.Proofs.Ytghefmppjdneoaa
open Go.Proofs Stab Go.Shelf Go.RowKit Go.Lib Go.Sort Go.Maps

/-- what a function does that is asked of each relay of the row in block q: it has been asked of ls, its own blocks lie below B -/
structure RowFn (q g : Nat) (lb : Array Value) (p : Rel → Bool) (I : List Rel → Nat → World → Prop) : Prop where
  call : ∀ ls B r W cs, ls.length < 1000 → I ls B W → At W q 113 cs → Calls Try.prog g (#[.agg #[.int .i64 r.seq, .int .i64 r.to_, .int .i64 r.org, .int .i64 r.was]] ++ lb) W fun e w' => e = .returned (.bool (p r)) ∧ I (ls ++ [r]) w'.heap.size w' ∧ At w' q 113 cs ∧ W.heap.size ≤ w'.heap.size ∧ ∀ x, B ≤ x → x < W.heap.size → w'.heap[x]? = W.heap[x]?
  set : ∀ ls B W k v, I ls B W → I ls B (W.setCell ⟨q, k, none⟩ v)
  new : ∀ ls B W W', I ls B W → Below W.heap.size W W' → I ls B W'
/-- where the first one stands -/
def idxP (p : Rel → Bool) (l : List Rel) : Int := match l.findIdx? p with | none => -1 | some k => (k : Int)
theorem idxP_none {p : Rel → Bool} {l : List Rel} (h : ∀ x ∈ l, p x = false) : idxP p l = -1 := by
  unfold idxP
  rw [List.findIdx?_eq_none_iff.2 h]
theorem idxP_some {p : Rel → Bool} {l : List Rel} {k : Nat} (hk : k < l.length) (h : p l[k] = true) (hb : ∀ x ∈ l.take k, p x = false) : idxP p l = k := by
  unfold idxP
  rw [List.findIdx?_eq_some_iff_getElem.2 ⟨hk, h, fun j hj => by rw [hb l[j] (List.mem_take_iff_getElem.2 ⟨j, by omega, rfl⟩)]; decide⟩]
def IdxR (p : Rel → Bool) (l : List Rel) (I : List Rel → Nat → World → Prop) (w' : World) : Prop := ∃ B', B' ≤ w'.heap.size ∧
      ((∀ x ∈ l, p x = false) ∧ I l B' w' ∨ ∃ k, ∃ h : k < l.length, p l[k] = true ∧ (∀ x ∈ l.take k, p x = false) ∧ I (l.take (k + 1)) B' w')
section
variable {q g : Nat} {l1 l2 : Value} {p : Rel → Bool} {I : List Rel → Nat → World → Prop}
set_option maxRecDepth 100000 in
set_option maxHeartbeats 400000 in
theorem idxRel_any (F : RowFn q g #[l1, l2] p I) (eg : ∀ args w, (callFunc g args).run Try.prog w = .ok (.enter g args) w) (cap : Nat) (l : List Rel) (sp : List Value) {B : Nat} {w : World} (hw : I [] B w) (hB : B ≤ w.heap.size) (hA : At w q 113 (relsV l ++ sp)) (hn : l.length ≤ 1000) :
    Calls Try.prog 70 #[.slice (some ⟨q, 0, none⟩) l.length cap, .func (.func g) #[] #[l1, l2]] w fun e w' => e = .returned (.int .i64 (idxP p l)) ∧ At w' q 113 (relsV l ++ sp) ∧ IdxR p l I w' := by
  obtain ⟨n, hln⟩ : ∃ n, n = l.length := ⟨_, rfl⟩
  rw [← hln]
  have HN := Lib.hid hln
  have HF := Lib.hid F
  have HW := Lib.hid (And.intro hw hB)
  have HA := Lib.hid hA
  have hnb : n ≤ 1000 := by omega
  clear hln F hw hB hA hn
  go_enter Try.func70, Try.ntmps70
  go_wp2_with fail
  go_loopg [8] n (fun gg s8 wr => ∃ kk : Nat, kk ≤ n ∧ n - kk ≤ gg ∧ s8 = .int .i64 kk ∧ Hid (∃ B', B' ≤ wr.heap.size ∧ I (l.take kk) B' wr) ∧ Hid (At wr q 113 (relsV l ++ sp)) ∧ Hid (∀ x ∈ l.take kk, p x = false))
  case atStart => exact ⟨0, Nat.zero_le _, by omega, rfl, ⟨B, HW.out.2, HW.out.1⟩, HA.out, by intro x hx; simp at hx⟩
  case round =>
    clear HW HA
    obtain ⟨kk, hkk, hg, rfl, HI, HA, HP⟩ := hrel
    by_cases hlt : kk < n
    · have hltz : (kk : Int) < (n : Int) := by omega
      have i0 : (0 : Int) ≤ (kk : Int) := by omega
      have hkl : kk < l.length := by have := HN.out; omega
      obtain ⟨x, hx⟩ : ∃ x, x = l[kk] := ⟨_, rfl⟩
      have hat := relsV_at l sp kk hkl
      rw [← hx] at hat
      have c0 := HA.out.cell' (i := kk * 4) (v := .int .i64 x.seq) (hat 0 _ rfl)
      have c1 := HA.out.cell' (i := kk * 4 + 1) (v := .int .i64 x.to_) (hat 1 _ rfl)
      have c2 := HA.out.cell' (i := kk * 4 + 2) (v := .int .i64 x.org) (hat 2 _ rfl)
      have c3 := HA.out.cell' (i := kk * 4 + 3) (v := .int .i64 x.was) (hat 3 _ rfl)
      have HX := Lib.hid hx
      obtain ⟨B1, hB1, hI1⟩ := HI.out
      have HC := Lib.hid (HF.out.call _ _ x wr _ (by rw [List.length_take]; omega) hI1 HA.out)
      have htk : l.take (kk + 1) = l.take kk ++ [x] := by rw [List.take_succ_eq_append_getElem hkl, ← hx]
      have HTK := Lib.hid htk
      clear hat hx hI1 hB1 htk
      cases hq : p x with
      | true =>
        rw [hq] at HC
        have HQ := Lib.hid hq
        clear hq
        go_wp2_with (first
          | (go_at_fn g; refine Calls.mono HC.out ?_; rintro e w' ⟨rfl, hb1, hb2, hb3, hb4⟩; have HB1 := Lib.hid hb1; have HB2 := Lib.hid hb2; clear hb1 hb2 hb3 hb4 HC))
        go_ret
        exact ⟨congrArg (fun z => Ending.returned (.int .i64 z)) (idxP_some hkl (by rw [← HX.out]; exact HQ.out) HP.out).symm, HB2.out, _, Nat.le_refl _, .inr ⟨kk, hkl, by rw [← HX.out]; exact HQ.out, HP.out, by rw [HTK.out]; exact HB1.out⟩⟩
      | false =>
        rw [hq] at HC
        have HQ := Lib.hid hq
        clear hq
        go_wp2_with (first
          | (go_at_fn g; refine Calls.mono HC.out ?_; rintro e w' ⟨rfl, hb1, hb2, hb3, hb4⟩; have HB1 := Lib.hid hb1; have HB2 := Lib.hid hb2; clear hb1 hb2 hb3 hb4 HC))
        go_roundg (n - (kk + 1))
        case measure => omega
        case rel =>
          refine ⟨kk + 1, by omega, by omega, by go_num, ⟨_, Nat.le_refl _, by rw [HTK.out]; exact HB1.out⟩, HB2.out, (show Hid _ from fun y hy => ?_)⟩
          rw [HTK.out] at hy
          rcases List.mem_append.1 hy with hy | hy
          · exact HP.out y hy
          · rw [List.mem_singleton.1 hy]; exact HQ.out
    · have hltz : ¬ (kk : Int) < (n : Int) := by omega
      have hkn : kk = l.length := by have := HN.out; omega
      have HK := Lib.hid hkn
      clear hkn
      go_wp2_with fail
      go_ret
      obtain ⟨B1, hB1, hI1⟩ := HI.out
      have h := HP.out
      rw [HK.out, List.take_length] at h hI1
      exact ⟨congrArg (fun z => Ending.returned (.int .i64 z)) (idxP_none h).symm, HA.out, B1, hB1, .inl ⟨h, hI1⟩⟩
end
end Go.Proofs.Ytghefmppjdneoaa

namespace Go.Proofs.Ytghefmppjdneoaa
open Go.Proofs Stab Go.Shelf Go.RowKit Go.Lib Go.Sort Go.Maps

/-- how far DeleteFunc has come: the row R, the first i are what is kept of the first j -/
structure DelR (p : Rel → Bool) (l R : List Rel) (i j : Nat) : Prop where
  len : R.length = l.length
  low : R.take i = (l.take j).filter fun x => !p x
  high : R.drop j = l.drop j
theorem DelR.lowlen {p : Rel → Bool} {l R : List Rel} {i j : Nat} (h : DelR p l R i j) (hi : i ≤ R.length) : ((l.take j).filter fun x => !p x).length = i := by
  rw [← h.low, List.length_take, Nat.min_eq_left hi]
theorem DelR.start {p : Rel → Bool} {l : List Rel} {k : Nat} (hk : k < l.length) (hp : p l[k] = true) (hb : ∀ x ∈ l.take k, p x = false) : DelR p l l k (k + 1) := by
  refine ⟨rfl, ?_, rfl⟩
  rw [List.take_succ_eq_append_getElem hk, List.filter_append, List.filter_eq_self.2 (fun x hx => by rw [hb x hx]; rfl)]
  simp [hp]
theorem DelR.at {p : Rel → Bool} {l R : List Rel} {i j : Nat} (h : DelR p l R i j) (hj : j < l.length) : ∃ hR : j < R.length, R[j] = l[j] := by
  refine ⟨by rw [h.len]; exact hj, ?_⟩
  have h1 := congrArg (fun z => z[0]?) h.high
  simp only [List.getElem?_drop, Nat.add_zero] at h1
  rw [List.getElem?_eq_getElem (by rw [h.len]; exact hj), List.getElem?_eq_getElem hj] at h1
  exact Option.some.inj h1
theorem DelR.skip {p : Rel → Bool} {l R : List Rel} {i j : Nat} (h : DelR p l R i j) (hj : j < l.length) (hp : p l[j] = true) : DelR p l R i (j + 1) := by
  refine ⟨h.len, ?_, ?_⟩
  · rw [List.take_succ_eq_append_getElem hj, List.filter_append, ← h.low]
    simp [hp]
  · have := congrArg (List.drop 1) h.high
    rwa [List.drop_drop, List.drop_drop] at this
theorem DelR.keep {p : Rel → Bool} {l R : List Rel} {i j : Nat} (h : DelR p l R i j) (hij : i < j) (hj : j < l.length) (hp : p l[j] = false) : DelR p l (R.set i l[j]) (i + 1) (j + 1) := by
  have hi : i < R.length := by rw [h.len]; omega
  refine ⟨by rw [List.length_set]; exact h.len, ?_, ?_⟩
  · rw [List.take_succ_eq_append_getElem hj, List.filter_append, ← h.low, List.take_succ_eq_append_getElem (by rw [List.length_set]; exact hi), List.take_set_of_le (Nat.le_refl i), List.getElem_set_self]
    simp [hp]
  · have := congrArg (List.drop 1) h.high
    rw [List.drop_drop, List.drop_drop] at this
    rw [List.drop_set_of_lt (by omega)]
    exact this
theorem size_setCell' (w : World) (a : Addr) (v : Value) : (w.setCell a v).heap.size = w.heap.size := by simp [World.setCell]
theorem relsV_take (R : List Rel) (i : Nat) (hi : i ≤ R.length) : (relsV R).take (i * 4) = relsV (R.take i) := by
  have h1 : relsV R = relsV (R.take i) ++ relsV (R.drop i) := by
    conv => lhs; rw [← List.take_append_drop i R]
    unfold relsV
    rw [List.flatMap_append]
  have h2 : (relsV (R.take i)).length = i * 4 := by rw [relsV_len, List.length_take, Nat.min_eq_left hi]
  rw [h1, ← h2, List.take_left]
section
variable {q g : Nat} {l1 l2 : Value} {p : Rel → Bool} {I : List Rel → Nat → World → Prop}
/-- what DeleteFunc leaves -/
def DelPost (q : Nat) (p : Rel → Bool) (l : List Rel) (sp : List Value) (I : List Rel → Nat → World → Prop) (w' : World) : Prop :=
  ∃ cs, At w' q 113 cs ∧ cs.length = (relsV l ++ sp).length ∧ cs.take ((l.filter fun x => !p x).length * 4) = relsV (l.filter fun x => !p x) ∧ ∃ B', B' ≤ w'.heap.size ∧ I l B' w'
set_option maxRecDepth 100000 in
set_option maxHeartbeats 1000000 in
theorem delRel_any (F : RowFn q g #[l1, l2] p I) (eg : ∀ args w, (callFunc g args).run Try.prog w = .ok (.enter g args) w) (cap : Nat) (l : List Rel) (sp : List Value) {B : Nat} {w : World} (hw : I [] B w) (hB : B ≤ w.heap.size) (hA : At w q 113 (relsV l ++ sp)) (hn : l.length ≤ 1000) (hcap : l.length ≤ cap) :
    Calls Try.prog 52 #[.slice (some ⟨q, 0, none⟩) l.length cap, .func (.func g) #[] #[l1, l2]] w fun e w' => e = .returned (.slice (some ⟨q, 0, none⟩) (l.filter fun x => !p x).length cap) ∧ DelPost q p l sp I w' := by
  have HID := Lib.hid (idxRel_any F eg cap l sp hw hB hA hn)
  obtain ⟨n, hln⟩ : ∃ n, n = l.length := ⟨_, rfl⟩
  rw [← hln] at HID ⊢
  have HN := Lib.hid hln
  have HF := Lib.hid F
  have hnb : n ≤ 1000 := by omega
  have hnc : n ≤ cap := by omega
  clear F hw hB hA hn hcap hln
  go_enter Try.func52, Try.ntmps52
  go_wp2_with fail
  refine HID.out.mono ?_
  rintro e w1 ⟨rfl, hA1, B1, hB1, hcase⟩
  clear HID
  rcases hcase with ⟨hall, hI⟩ | ⟨k, hk, hpk, hbef, hI⟩
  · rw [idxP_none hall]
    have HR := Lib.hid (And.intro hall (And.intro hI (And.intro hA1 hB1)))
    clear hall hI hA1 hB1
    go_wp2_with fail
    go_ret
    have hfil : (l.filter fun x => !p x) = l := List.filter_eq_self.2 (fun x hx => by rw [HR.out.1 x hx]; rfl)
    refine ⟨by rw [hfil, ← HN.out]; rfl, _, HR.out.2.2.1, rfl, ?_, B1, HR.out.2.2.2, HR.out.2.1⟩
    rw [hfil, ← relsV_len, List.take_left]
  · rw [idxP_some hk hpk hbef]
    have HD := Lib.hid (DelR.start hk hpk hbef)
    have HI := Lib.hid (show ∃ B', B' ≤ w1.heap.size ∧ I (l.take (k + 1)) B' w1 from ⟨B1, hB1, hI⟩)
    have HA1 := Lib.hid hA1
    have hk0n : k < n := by have := HN.out; omega
    have hne1 : ((k : Int) == -1) = false := beq_eq_false_iff_ne.2 (by omega)
    clear hk hpk hbef hI hA1 hB1
    go_wp2_with fail
    go_loopg [5, 6] n (fun gg s5 s6 wr => ∃ (i j : Nat) (R : List Rel), s5 = .int .i64 i ∧ s6 = .int .i64 j ∧ j ≤ n ∧ i < j ∧ n - j ≤ gg ∧ Hid (At wr q 113 (relsV R ++ sp)) ∧ Hid (DelR p l R i j) ∧ Hid (∃ B', B' ≤ wr.heap.size ∧ I (l.take j) B' wr))
    case atStart => exact ⟨k, k + 1, l, rfl, by go_num, by omega, by omega, by omega, HA1.out, HD.out, HI.out⟩
    case round =>
      clear HA1 HD HI hk0n hne1
      obtain ⟨i, j, R, rfl, rfl, hjn, hij, hgg, HA, HD, HI⟩ := hrel
      by_cases hlt : j < n
      · have hltz : (j : Int) < (n : Int) := by omega
        have j0 : (0 : Int) ≤ (j : Int) := by omega
        have i0 : (0 : Int) ≤ (i : Int) := by omega
        have iz : (i : Int) < (n : Int) := by omega
        have hjl : j < l.length := by have := HN.out; omega
        obtain ⟨hjR, hRj⟩ := HD.out.at hjl
        obtain ⟨x, hx⟩ : ∃ x, x = l[j] := ⟨_, rfl⟩
        have hat := relsV_at R sp j hjR
        rw [hRj, ← hx] at hat
        have c0 := HA.out.cell' (i := j * 4) (v := .int .i64 x.seq) (hat 0 _ rfl)
        have c1 := HA.out.cell' (i := j * 4 + 1) (v := .int .i64 x.to_) (hat 1 _ rfl)
        have c2 := HA.out.cell' (i := j * 4 + 2) (v := .int .i64 x.org) (hat 2 _ rfl)
        have c3 := HA.out.cell' (i := j * 4 + 3) (v := .int .i64 x.was) (hat 3 _ rfl)
        have HX := Lib.hid hx
        obtain ⟨B2, hB2, hI2⟩ := HI.out
        obtain ⟨w2, hw2⟩ : ∃ w2, w2 = wr.alloc (.cells #[.int .i64 x.seq, .int .i64 x.to_, .int .i64 x.org, .int .i64 x.was] 113) := ⟨_, rfl⟩
        have hb2 : Below wr.heap.size wr w2 := by rw [hw2]; exact (Below.refl _ _).alloc (Nat.le_refl _) _
        have hA2 : At w2 wr.heap.size 113 (relC x) := by rw [hw2]; exact At.newA _ _ rfl
        obtain ⟨g2, hg2⟩ : ∃ g2, g2 = wr.heap.size := ⟨_, rfl⟩
        have HC := Lib.hid (HF.out.call _ _ x w2 _ (by rw [List.length_take]; omega) (HF.out.new _ _ _ _ hI2 hb2) (HA.out.below hb2 HA.out.lt))
        have htk : l.take (j + 1) = l.take j ++ [x] := by rw [List.take_succ_eq_append_getElem hjl, ← hx]
        have HTK := Lib.hid htk
        have HG2 := Lib.hid (show B2 ≤ g2 ∧ g2 < w2.heap.size ∧ At w2 g2 113 (relC x) ∧ q ≠ g2 from ⟨by rw [hg2]; exact hB2, by rw [hg2]; exact hA2.lt, by rw [hg2]; exact hA2, by rw [hg2]; have := HA.out.lt; omega⟩)
        have HW2 := Lib.hid (And.intro hw2 hg2)
        have e0 := hA2.cell' (i := 0) (v := .int .i64 x.seq) rfl
        have e1 := hA2.cell' (i := 1) (v := .int .i64 x.to_) rfl
        have e2 := hA2.cell' (i := 2) (v := .int .i64 x.org) rfl
        have e3 := hA2.cell' (i := 3) (v := .int .i64 x.was) rfl
        rw [← hg2] at e0 e1 e2 e3
        have HIR := Lib.hid (show i < R.length by rw [HD.out.len]; omega)
        clear hat hx hI2 hB2 htk hjR hRj hw2 hb2 hA2 hg2
        cases hq : p x with
        | true =>
          rw [hq] at HC
          have HQ := Lib.hid hq
          clear hq
          go_wp2_with fail
          rw [← HW2.out.1, ← HW2.out.2]
          go_wp2_with (first
            | (go_at_fn g; refine Calls.mono HC.out ?_; rintro e w' ⟨rfl, hb1, hb2, hb3, hb4⟩; have HB1 := Lib.hid hb1; have HB2 := Lib.hid hb2; clear hb1 hb2 hb3 hb4 HC))
          go_roundg (n - (j + 1))
          case measure => omega
          case rel => exact ⟨i, j + 1, R, rfl, by go_num, by omega, by omega, Nat.le_refl _, HB2.out, HD.out.skip hjl (by rw [← HX.out]; exact HQ.out), ⟨_, Nat.le_refl _, by rw [HTK.out]; exact HB1.out⟩⟩
        | false =>
          rw [hq] at HC
          have HQ := Lib.hid hq
          clear hq
          go_wp2_with fail
          rw [← HW2.out.1, ← HW2.out.2]
          obtain ⟨y, hy⟩ : ∃ y, y = R[i]'HIR.out := ⟨_, rfl⟩
          have HY := Lib.hid hy
          clear hy
          go_wp2_with (first
            | (go_at_fn g; refine Calls.mono HC.out ?_; rintro e w' ⟨rfl, hb1, hb2, hb3, hb4⟩; have HB1 := Lib.hid hb1; have HB2 := Lib.hid hb2; have hA9 : At w' g2 113 (relC x) := (hb4 g2 HG2.out.1 HG2.out.2.1).trans HG2.out.2.2.1; have a0 := hA9.cell' (i := 0) (v := .int .i64 x.seq) rfl; have a1 := hA9.cell' (i := 1) (v := .int .i64 x.to_) rfl; have a2 := hA9.cell' (i := 2) (v := .int .i64 x.org) rfl; have a3 := hA9.cell' (i := 3) (v := .int .i64 x.was) rfl; have hat := relsV_at R sp i HIR.out; rw [← HY.out] at hat; have b0 := hb2.cell' (i := i * 4) (v := .int .i64 y.seq) (hat 0 _ rfl); have b1 := hb2.cell' (i := i * 4 + 1) (v := .int .i64 y.to_) (hat 1 _ rfl); have b2 := hb2.cell' (i := i * 4 + 2) (v := .int .i64 y.org) (hat 2 _ rfl); have b3 := hb2.cell' (i := i * 4 + 3) (v := .int .i64 y.was) (hat 3 _ rfl); have f0 := hb2.frozen (i * 4); have f1 := hb2.frozen (i * 4 + 1); have f2 := hb2.frozen (i * 4 + 2); have f3 := hb2.frozen (i * 4 + 3); clear hb1 hb2 hb3 hb4 hA9 hat HC))
          have hset := HB2.out.setCells (relC x) (i * 4) (by rw [List.length_append, relsV_len, relC_len]; have := HIR.out; have : (i + 1) * 4 ≤ R.length * 4 := Nat.mul_le_mul_right _ this; omega)
          rw [relsV_set R sp i HIR.out x] at hset
          have HSET := Lib.hid (show At ((((w'.setCell ⟨q, i * 4, none⟩ (.int .i64 x.seq)).setCell ⟨q, i * 4 + 1, none⟩ (.int .i64 x.to_)).setCell ⟨q, i * 4 + 2, none⟩ (.int .i64 x.org)).setCell ⟨q, i * 4 + 3, none⟩ (.int .i64 x.was)) q 113 (relsV (R.set i x) ++ sp) from hset)
          clear hset
          have HI9 := Lib.hid (HF.out.set _ _ _ (i * 4 + 3) (.int .i64 x.was) (HF.out.set _ _ _ (i * 4 + 2) (.int .i64 x.org) (HF.out.set _ _ _ (i * 4 + 1) (.int .i64 x.to_) (HF.out.set _ _ _ (i * 4) (.int .i64 x.seq) HB1.out))))
          have HSZ := Lib.hid (show w'.heap.size ≤ ((((w'.setCell ⟨q, i * 4, none⟩ (.int .i64 x.seq)).setCell ⟨q, i * 4 + 1, none⟩ (.int .i64 x.to_)).setCell ⟨q, i * 4 + 2, none⟩ (.int .i64 x.org)).setCell ⟨q, i * 4 + 3, none⟩ (.int .i64 x.was)).heap.size by simp only [size_setCell']; exact Nat.le_refl _)
          go_roundg (n - (j + 1))
          case measure => omega
          case rel =>
            refine ⟨i + 1, j + 1, R.set i x, by go_num, by go_num, by omega, by omega, Nat.le_refl _, HSET.out, ?_, ⟨_, HSZ.out, by rw [HTK.out]; exact HI9.out⟩⟩
            have := HD.out.keep hij hjl (by rw [← HX.out]; exact HQ.out)
            rw [← HX.out] at this
            exact this
      · have hjn2 : j = n := by omega
        have hin : (i : Int) < (n : Int) := by omega
        have i0 : (0 : Int) ≤ (i : Int) := by omega
        have hic : (i : Int) ≤ (cap : Int) := by omega
        have hin2 : i < n := by omega
        have hRl : R.length = n := HD.out.len.trans HN.out.symm
        have hlen : n * 4 ≤ (relsV R ++ sp).length := by rw [List.length_append, relsV_len, hRl]; omega
        obtain ⟨w6, hw6⟩ : ∃ w6, w6 = wr.setCells q (i * 4) (List.replicate (n - i) (relC relZ)).flatten := ⟨_, rfl⟩
        have hcl : ∀ ty, (Builtin.clear_ #[77] ty #[.slice (some ⟨q, i * 4, none⟩) (n - i) (cap - i)]).run Try.prog wr = .ok (.tuple #[]) w6 := fun ty => by
          rw [hw6]
          exact run_clear_rels HA.out hlen hin2 ty
        have hz : (List.replicate (n - i) (relC relZ)).flatten.length = (n - i) * 4 := by simp [relC_len]
        have hsub : i * 4 + (n - i) * 4 = n * 4 := by rw [← Nat.add_mul]; congr 1; omega
        have h6 := HA.out.setCells (List.replicate (n - i) (relC relZ)).flatten (i * 4) (by rw [hz, hsub]; exact hlen)
        rw [← hw6] at h6
        have HI6 := Lib.hid (show ∃ B', B' ≤ w6.heap.size ∧ I l B' w6 by
          obtain ⟨B3, hB3, hI3⟩ := HI.out
          have hl2 : l.take j = l := by rw [hjn2, HN.out, List.take_length]
          rw [hl2] at hI3
          have hset : ∀ (vs : List Value) (o : Nat) (w : World), I l B3 w → B3 ≤ w.heap.size → I l B3 (w.setCells q o vs) ∧ B3 ≤ (w.setCells q o vs).heap.size := by
            intro vs
            induction vs with
            | nil => exact fun o w h1 h2 => ⟨h1, h2⟩
            | cons v r ih =>
              intro o w h1 h2
              exact ih (o + 1) _ (HF.out.set _ _ _ _ _ h1) (by rw [size_setCell']; exact h2)
          have := hset (List.replicate (n - i) (relC relZ)).flatten (i * 4) wr hI3 hB3
          rw [← hw6] at this
          exact ⟨B3, this.2, this.1⟩)
        have H6 := Lib.hid h6
        have HJ := Lib.hid hjn2
        have HZ := Lib.hid hlen
        have HRL := Lib.hid hRl
        clear hw6 h6 hz hsub hlen hjn2 hRl
        go_wp2_with fail
        go_ret
        have hfl : ((l.take j).filter fun x => !p x) = l.filter fun x => !p x := by rw [HJ.out, HN.out, List.take_length]
        have hiR : i ≤ R.length := by have := HRL.out; omega
        have hlow := HD.out.lowlen hiR
        rw [hfl] at hlow
        refine ⟨by rw [hlow]; rfl, _, H6.out, ?_, ?_, HI6.out⟩
        · rw [List.length_append, List.length_append, List.length_take, List.length_drop, List.length_append, relsV_len, HD.out.len, ← HN.out, List.length_append, relsV_len, ← HN.out]
          have hz : (List.replicate (n - i) (relC relZ)).flatten.length = (n - i) * 4 := by simp [relC_len]
          rw [hz]
          have hsub : i * 4 + (n - i) * 4 = n * 4 := by rw [← Nat.add_mul]; congr 1; omega
          omega
        · have h2 := HD.out.low
          rw [hfl] at h2
          rw [hlow, List.append_assoc, List.take_append_of_le_length (by rw [List.length_take, List.length_append, relsV_len]; have : i * 4 ≤ R.length * 4 := Nat.mul_le_mul_right _ hiR; omega), List.take_take, Nat.min_self, List.take_append_of_le_length (by rw [relsV_len]; exact Nat.mul_le_mul_right _ hiR), ← h2]
          exact relsV_take R i hiR
end
end Go.Proofs.Ytghefmppjdneoaa
