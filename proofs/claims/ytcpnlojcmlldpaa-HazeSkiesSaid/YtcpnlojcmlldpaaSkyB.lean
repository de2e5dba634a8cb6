/- Layer 14: Put. -/
import Derived.Test.YtcpnlojcmlldpaaSkyA
namespace Go.Proofs.Ytcpnlojcmlldpaa
open Go.RowKit Go.Maps

def putS (f : Clouds) (node : Int) (h : List UInt8) (now : Int) : Clouds := if 1 ≤ node ∧ node ≤ 6 ∧ 0 ≤ now ∧ now ≤ 1099511627776 then Sk.upd f node ⟨h, now⟩ else f
theorem built_cloud (h : List UInt8) (hh : h.length = 64) (now : Int) : Try.prog.built 65 [(0, hzV h), (1, .int .i64 now)] = some (cloudCells ⟨h, now⟩).toArray := by
  rcases h with _ | ⟨b0, h⟩
  · cases hh
  rcases h with _ | ⟨b1, h⟩
  · cases hh
  rcases h with _ | ⟨b2, h⟩
  · cases hh
  rcases h with _ | ⟨b3, h⟩
  · cases hh
  rcases h with _ | ⟨b4, h⟩
  · cases hh
  rcases h with _ | ⟨b5, h⟩
  · cases hh
  rcases h with _ | ⟨b6, h⟩
  · cases hh
  rcases h with _ | ⟨b7, h⟩
  · cases hh
  rcases h with _ | ⟨b8, h⟩
  · cases hh
  rcases h with _ | ⟨b9, h⟩
  · cases hh
  rcases h with _ | ⟨b10, h⟩
  · cases hh
  rcases h with _ | ⟨b11, h⟩
  · cases hh
  rcases h with _ | ⟨b12, h⟩
  · cases hh
  rcases h with _ | ⟨b13, h⟩
  · cases hh
  rcases h with _ | ⟨b14, h⟩
  · cases hh
  rcases h with _ | ⟨b15, h⟩
  · cases hh
  rcases h with _ | ⟨b16, h⟩
  · cases hh
  rcases h with _ | ⟨b17, h⟩
  · cases hh
  rcases h with _ | ⟨b18, h⟩
  · cases hh
  rcases h with _ | ⟨b19, h⟩
  · cases hh
  rcases h with _ | ⟨b20, h⟩
  · cases hh
  rcases h with _ | ⟨b21, h⟩
  · cases hh
  rcases h with _ | ⟨b22, h⟩
  · cases hh
  rcases h with _ | ⟨b23, h⟩
  · cases hh
  rcases h with _ | ⟨b24, h⟩
  · cases hh
  rcases h with _ | ⟨b25, h⟩
  · cases hh
  rcases h with _ | ⟨b26, h⟩
  · cases hh
  rcases h with _ | ⟨b27, h⟩
  · cases hh
  rcases h with _ | ⟨b28, h⟩
  · cases hh
  rcases h with _ | ⟨b29, h⟩
  · cases hh
  rcases h with _ | ⟨b30, h⟩
  · cases hh
  rcases h with _ | ⟨b31, h⟩
  · cases hh
  rcases h with _ | ⟨b32, h⟩
  · cases hh
  rcases h with _ | ⟨b33, h⟩
  · cases hh
  rcases h with _ | ⟨b34, h⟩
  · cases hh
  rcases h with _ | ⟨b35, h⟩
  · cases hh
  rcases h with _ | ⟨b36, h⟩
  · cases hh
  rcases h with _ | ⟨b37, h⟩
  · cases hh
  rcases h with _ | ⟨b38, h⟩
  · cases hh
  rcases h with _ | ⟨b39, h⟩
  · cases hh
  rcases h with _ | ⟨b40, h⟩
  · cases hh
  rcases h with _ | ⟨b41, h⟩
  · cases hh
  rcases h with _ | ⟨b42, h⟩
  · cases hh
  rcases h with _ | ⟨b43, h⟩
  · cases hh
  rcases h with _ | ⟨b44, h⟩
  · cases hh
  rcases h with _ | ⟨b45, h⟩
  · cases hh
  rcases h with _ | ⟨b46, h⟩
  · cases hh
  rcases h with _ | ⟨b47, h⟩
  · cases hh
  rcases h with _ | ⟨b48, h⟩
  · cases hh
  rcases h with _ | ⟨b49, h⟩
  · cases hh
  rcases h with _ | ⟨b50, h⟩
  · cases hh
  rcases h with _ | ⟨b51, h⟩
  · cases hh
  rcases h with _ | ⟨b52, h⟩
  · cases hh
  rcases h with _ | ⟨b53, h⟩
  · cases hh
  rcases h with _ | ⟨b54, h⟩
  · cases hh
  rcases h with _ | ⟨b55, h⟩
  · cases hh
  rcases h with _ | ⟨b56, h⟩
  · cases hh
  rcases h with _ | ⟨b57, h⟩
  · cases hh
  rcases h with _ | ⟨b58, h⟩
  · cases hh
  rcases h with _ | ⟨b59, h⟩
  · cases hh
  rcases h with _ | ⟨b60, h⟩
  · cases hh
  rcases h with _ | ⟨b61, h⟩
  · cases hh
  rcases h with _ | ⟨b62, h⟩
  · cases hh
  rcases h with _ | ⟨b63, h⟩
  · cases hh
  rcases h with _ | ⟨b64, h⟩
  · kernel_rfl
  · simp at hh
theorem exec_build {P : Program} {a : Act} {o : Oper} (t : TypeId) (parts : Array (Nat × Operand)) (cells : Array Value) (ho : o.op = .build t parts) (h : P.built t (parts.map fun (i, x) => (i, a.eval x)).toList = some cells) (w : World) :
    (execOp a.eval o).run P w = .ok (.value (.agg cells)) w := by
  unfold execOp
  simp only [ho, Sem.run_bind, run_build w t _ cells h, Result.andThen_ok, Sem.run_pure]
theorem keyed_int : Keyed Try.prog 3 := int_keyed Try.underlying3
theorem key_int {n : Int} (h1 : -9223372036854775808 ≤ n) (h2 : n ≤ 9223372036854775807) : keyOf Try.prog 3 (.int .i64 n) = some (.int .i64 n) :=
  keyOf_int_mk Try.underlying3 (by simp [Lit.wf, IntKind.min, IntKind.max, IntKind.signed, IntKind.bits]; omega)
theorem sky_more {H : Type} {w : World} {p b N : Nat} {f : Clouds} (h : SkyAt H w p b N f) : SkyAt H w p b (N + 1) f := ⟨h.1, h.2.1.mono (Nat.le_succ _), h.2.2⟩
set_option maxRecDepth 100000 in
set_option maxHeartbeats 400000 in
theorem sky_put {H : Type} {w : World} {p b N : Nat} {f : Clouds} (hs : SkyAt H w p b N f) (hN : N < 1000000) (node : Int) (h : List UInt8) (hh : h.length = 64) (now : Int) (h64 : -9223372036854775808 ≤ node ∧ node ≤ 9223372036854775807) :
    Calls Try.prog 14 #[.pointer (some ⟨p, 0, none⟩), .int .i64 node, hzV h, .int .i64 now] w fun e w' => e = .returned (.tuple #[]) ∧ SkyAt H w' p b (N + 1) (putS f node h now) ∧ w.grownBy w' (some b) := by
  have HS := Lib.hid hs
  have HH := Lib.hid hh
  have H64 := Lib.hid h64
  have c0 := hs.1.cell' (i := 0) (v := .map (some b)) rfl
  clear hs hh h64
  go_enter Try.func14, Try.ntmps14
  by_cases h1 : 1 ≤ node
  · by_cases h2 : node ≤ 6
    · go_wp2_with fail
      refine (isTime_any now _).mono ?_
      rintro e w1 ⟨rfl, rfl⟩
      by_cases h3 : 0 ≤ now ∧ now ≤ 1099511627776
      · rw [decide_eq_true h3.1, decide_eq_true h3.2]
        go_wp2_with fail
        have hA : At (w.alloc (.cells (u8s h).toArray 26)) w.heap.size 26 (u8s h) := At.newA w _ rfl
        have hS2 : SkyAt H (w.alloc (.cells (u8s h).toArray 26)) p b N f := sky_below HS.out ((Below.refl _ _).alloc (Nat.le_refl _) _)
        have c1 := hS2.1.cell' (i := 0) (v := .map (some b)) rfl
        have hG2 : w.grownBy (w.alloc (.cells (u8s h).toArray 26)) (some b) := grown_alloc (World.grownBy.refl _ _) _
        have HU := Lib.hid Try.underlying26
        have HI := Lib.hid (show (Try.prog.info? 26).map (·.size) = some (u8s h).length by rw [u8s_len, HH.out]; kernel_rfl)
        generalize w.alloc (.cells (u8s h).toArray 26) = w2 at hA hS2 c1 hG2 ⊢
        have HRg := Lib.hid (show ∀ w', (∃ n, w' = w2.drewN n) → w'.rangeAt w.heap.size 0 (u8s h) from fun w' ⟨n, e⟩ => by
          rw [e]
          have h2 := hA.below (below_drewN (Below.refl w2.heap.size w2) n) hA.lt
          exact fun j v hv => by rw [Nat.zero_add]; exact h2.cell' hv)
        refine wp_region_then (fun w' => ∃ n, w' = w2.drewN n) 8 (by kernel_rfl) (by kernel_rfl) (by kernel_rfl) (by kernel_rfl) (by decide) ⟨1, rfl⟩ ?_
        simp only [List.take_succ_cons, List.take_zero, List.drop_succ_cons, List.drop_zero]
        iterate 5 (go_big_quiet_step (fail))
        with_reducible refine wpQuiet_loadAll (by with_unfolding_all rfl) 26 (.tmp 6) (by with_unfolding_all rfl) w.heap.size 0 (by with_unfolding_all rfl) (u8s h) _ (fun w' h => HRg.out w' h) HU.out (by with_unfolding_all rfl) HI.out ?_
        simp only [Act.put, List.setIfInBounds_toArray, List.set_cons_zero, List.set_cons_succ]
        go_big_quiet_step (fail)
        with_reducible refine wpQuiet_val (.agg (cloudCells ⟨h, now⟩).toArray) (by with_unfolding_all rfl) (fun w' _ => exec_build 65 #[(0, .tmp 27), (1, .tmp 28)] _ (by with_unfolding_all rfl) (by simp only [List.map_toArray, List.map_cons, List.map_nil]; with_unfolding_all exact built_cloud h HH.out now) w') ?_
        simp only [Act.put, List.setIfInBounds_toArray, List.set_cons_zero, List.set_cons_succ]
        refine wpQuiet_nil ?_
        intro _ hw'
        obtain ⟨nq, rfl⟩ := hw'
        have hown : (w2.drewN nq).ownsMap Try.prog 3 readC b N (Sk.mapD (H := H) cloudD f) := hS2.2.1
        refine wpList_mapUpdate_own _ rfl (.tmp 25) (.tmp 26) (.tmp 29) 60 rfl 3 65 keyed_int Try.underlying60 readC b N (Sk.mapD cloudD f) rfl hown (by unfold maxLen; omega) (.int .i64 node) (cloudV ⟨h, now⟩) (.int .i64 node) rfl rfl (key_int H64.out.1 H64.out.2) (cloudD ⟨h, now⟩) [] (readC_cloud ⟨h, now⟩) ?_
        intro w3 hown3 hg3
        rw [Sk.put_mapD f ⟨h, now⟩ (Sk.node_mem h1 h2)] at hown3
        have hg3' : w2.grownBy w3 (some b) := ⟨hg3.os, hg3.tape, hg3.output, hg3.size, hg3.block⟩
        have hpb : p ≠ b := hS2.2.2.2
        have hP3 := hS2.1.grown hg3' (by intro e; injection e with e; exact hpb e)
        have HP := Lib.hid (show putS f node h now = Sk.upd f node ⟨h, now⟩ by unfold putS; rw [if_pos ⟨h1, h2, h3.1, h3.2⟩])
        have HFin := Lib.hid (show SkyAt H w3 p b (N + 1) (Sk.upd f node ⟨h, now⟩) from ⟨hP3, hown3, ⟨Sk.sane_upd hS2.2.2.1.1 (Sk.node_mem h1 h2) _, fun k c hk => by
          unfold Sk.upd at hk
          split at hk
          · cases hk; exact ⟨HH.out, h3.1, h3.2⟩
          · exact hS2.2.2.1.2 k c hk⟩, hpb⟩)
        have HG3 := Lib.hid (grown_trans hG2 hg3')
        clear hown3 hg3 hg3' hP3 hown hS2 hA hG2 c1 h3
        refine wpList_nil ?_
        go_wp2_with fail
        go_end0
        exact ⟨rfl, by rw [HP.out]; exact HFin.out, HG3.out⟩
      · have e3 : (decide (0 ≤ now) && decide (now ≤ 1099511627776)) = false := by
          rw [Bool.eq_false_iff]
          intro e
          simp only [Bool.and_eq_true, decide_eq_true_eq] at e
          exact h3 e
        rw [e3]
        have HP := Lib.hid (show putS f node h now = f by unfold putS; rw [if_neg (fun e => h3 e.2.2)])
        clear h3 e3
        go_wp2_with fail
        go_end0
        exact ⟨rfl, by rw [HP.out]; exact sky_more (sky_below HS.out ((Below.refl _ _).alloc (Nat.le_refl _) _)), grown_alloc (World.grownBy.refl _ _) _⟩
    · have HP := Lib.hid (show putS f node h now = f by unfold putS; rw [if_neg (fun e => h2 e.2.1)])
      go_wp2_with fail
      go_end0
      exact ⟨rfl, by rw [HP.out]; exact sky_more (sky_below HS.out ((Below.refl _ _).alloc (Nat.le_refl _) _)), grown_alloc (World.grownBy.refl _ _) _⟩
  · have HP := Lib.hid (show putS f node h now = f by unfold putS; rw [if_neg (fun e => h1 e.1)])
    go_wp2_with fail
    go_end0
    exact ⟨rfl, by rw [HP.out]; exact sky_more (sky_below HS.out ((Below.refl _ _).alloc (Nat.le_refl _) _)), grown_alloc (World.grownBy.refl _ _) _⟩
end Go.Proofs.Ytcpnlojcmlldpaa
