/- Layer 14: Has. -/
import Derived.Test.YtcpnlojcmlldpaaHazeC
import Derived.Deep.RegionHeld3
import Derived.Great.BuildSlice
namespace Go.Proofs.Ytcpnlojcmlldpaa
open Go.RowKit

theorem info_dg : (Try.prog.info? 23).map (fun i => (i.zero, i.size)) = some (some (.agg (List.replicate 32 (.int .u8 0)).toArray), 32) := by kernel_rfl
theorem fill_dg (k : List UInt8) (hk : k.length = 32) : Instr.fill (fun i => some (i * 32, 32)) ((Array.range (1 * 32)).map ((Value.agg (List.replicate 32 (.int .u8 0)).toArray).cells[· % (Value.agg (List.replicate 32 (Value.int .u8 0)).toArray).cells.size]!)) [(0, .agg (u8s k).toArray)] = some (u8s k).toArray := by
  rcases k with _ | ⟨b0, k⟩
  · cases hk
  rcases k with _ | ⟨b1, k⟩
  · cases hk
  rcases k with _ | ⟨b2, k⟩
  · cases hk
  rcases k with _ | ⟨b3, k⟩
  · cases hk
  rcases k with _ | ⟨b4, k⟩
  · cases hk
  rcases k with _ | ⟨b5, k⟩
  · cases hk
  rcases k with _ | ⟨b6, k⟩
  · cases hk
  rcases k with _ | ⟨b7, k⟩
  · cases hk
  rcases k with _ | ⟨b8, k⟩
  · cases hk
  rcases k with _ | ⟨b9, k⟩
  · cases hk
  rcases k with _ | ⟨b10, k⟩
  · cases hk
  rcases k with _ | ⟨b11, k⟩
  · cases hk
  rcases k with _ | ⟨b12, k⟩
  · cases hk
  rcases k with _ | ⟨b13, k⟩
  · cases hk
  rcases k with _ | ⟨b14, k⟩
  · cases hk
  rcases k with _ | ⟨b15, k⟩
  · cases hk
  rcases k with _ | ⟨b16, k⟩
  · cases hk
  rcases k with _ | ⟨b17, k⟩
  · cases hk
  rcases k with _ | ⟨b18, k⟩
  · cases hk
  rcases k with _ | ⟨b19, k⟩
  · cases hk
  rcases k with _ | ⟨b20, k⟩
  · cases hk
  rcases k with _ | ⟨b21, k⟩
  · cases hk
  rcases k with _ | ⟨b22, k⟩
  · cases hk
  rcases k with _ | ⟨b23, k⟩
  · cases hk
  rcases k with _ | ⟨b24, k⟩
  · cases hk
  rcases k with _ | ⟨b25, k⟩
  · cases hk
  rcases k with _ | ⟨b26, k⟩
  · cases hk
  rcases k with _ | ⟨b27, k⟩
  · cases hk
  rcases k with _ | ⟨b28, k⟩
  · cases hk
  rcases k with _ | ⟨b29, k⟩
  · cases hk
  rcases k with _ | ⟨b30, k⟩
  · cases hk
  rcases k with _ | ⟨b31, k⟩
  · cases hk
  rcases k with _ | ⟨b32, k⟩
  · kernel_rfl
  · simp at hk
theorem wp_build_dg {o : Oper} {a : Act} {w : World} {K : Act → World → Prop} {Q : Exit → Act → World → Prop} (k : List UInt8) (hk : k.length = 32) (x : Operand) (ho : o.op = .buildSlice 51 1 #[(0, x)]) (hx : a.eval x = .agg (u8s k).toArray)
    (h : K (a.put o.dst (.slice (some ⟨w.heap.size, 0, none⟩) 1 1)) (w.alloc (.cells (u8s k).toArray 23))) : o.wp Try.prog a w K Q := by
  cases hie : Try.prog.info? 23 with
  | none => have h := info_dg; rw [hie] at h; cases h
  | some ie =>
    have hi := info_dg
    rw [hie, Option.map_some, Option.some.injEq, Prod.mk.injEq] at hi
    refine wp_buildSlice 51 23 1 #[(0, x)] ho _ ie _ Try.underlying51 hie hi.1 (by rw [hi.2]; omega) (by rw [hi.2]; omega) ?_ h
    rw [hi.2]
    simp only [List.map_toArray, List.map_cons, List.map_nil, hx]
    exact fill_dg k hk

set_option maxRecDepth 100000 in
set_option maxHeartbeats 200000 in
theorem has_any (h k : List UInt8) (hh : h.length = 64) (hk : k.length = 32) (w : World) :
    Calls Try.prog 11 #[.agg (u8s h).toArray, .agg (u8s k).toArray] w fun e w' => e = .returned (.bool (Hz.has h k)) ∧ Below w.heap.size w w' := by
  have hi : (Try.prog.info? 26).map (·.size) = some (u8s h).toArray.size := by
    rw [List.size_toArray, u8s_len, hh]
    kernel_rfl
  have hik : (Try.prog.info? 23).map (·.size) = some (u8s k).toArray.size := by
    rw [List.size_toArray, u8s_len, hk]
    kernel_rfl
  have HH := Lib.hid hh
  have HK := Lib.hid hk
  clear hh hk
  go_enter Try.func11, Try.ntmps11
  go_wp2_with fail
  have hH : HasS w ((w.alloc (.cells (u8s h).toArray 26)).alloc (.cells (u8s k).toArray 23)) h k := by
    have h1 : At ((w.alloc (.cells (u8s h).toArray 26)).alloc (.cells (u8s k).toArray 23)) w.heap.size 26 (u8s h) := (At.newA w _ rfl).alloc _
    have h2 : At ((w.alloc (.cells (u8s h).toArray 26)).alloc (.cells (u8s k).toArray 23)) (w.heap.size + 1) 23 (u8s k) := at_new_at _ _ (by simp) rfl
    exact ⟨fun j v hv => by rw [Nat.zero_add]; exact h1.cell' hv, fun j v hv => by rw [Nat.zero_add]; exact h2.cell' hv, by simp, ((Below.refl _ _).alloc (Nat.le_refl _) _).alloc (by simp) _⟩
  have hu1 := Try.underlying26
  have hu2 := Try.underlying23
  have hi1 : (Try.prog.info? 26).map (·.size) = some (u8s h).length := by rw [u8s_len, HH.out]; kernel_rfl
  have hi2 : (Try.prog.info? 23).map (·.size) = some (u8s k).length := by rw [u8s_len, HK.out]; kernel_rfl
  have he1 : ∀ w, (binOp .eql 26 (hzV (Hz.withKey h k)) (hzV h)).run Try.prog w = .ok (.bool (Hz.has h k)) w := fun w => run_eql_hz w _ _ (by rw [Hz.withKey_len, HH.out]) HH.out
  have he2 := fun w => run_eqGuard_hz w .eql
  clear hi hik
  refine wp_region_held_drew (S := fun w' => HasS w w' h k) (by kernel_rfl) (HasS.drew hH) (fun hHeld => ?_)
  refine wpAnyH_take (i := 0) (v := .agg (u8s h).toArray) rfl (by kernel_rfl) (by kernel_rfl) (by kernel_rfl) (fun _ _ _ h => h) (yieldsIf_load_mid (by rfl) 26 (.tmp 2) rfl (w.heap.size) 0 rfl (u8s h) _ (fun _ H => HasS.a H) hu1 rfl hi1) hHeld ?_
  simp only [Act.put, List.setIfInBounds_toArray]
  refine wpAnyH_take (i := 1) (v := .agg (u8s k).toArray) rfl (by kernel_rfl) (by kernel_rfl) (by kernel_rfl) (fun _ _ _ h => h) (yieldsIf_load_mid (by rfl) 23 (.tmp 3) rfl (w.heap.size + 1) 0 rfl (u8s k) _ (fun _ H => HasS.b H) hu2 rfl hi2) hHeld ?_
  simp only [Act.put]
  refine wpAnyH_take (i := 4) (v := .agg (u8s h).toArray) rfl (by kernel_rfl) (by kernel_rfl) (by kernel_rfl) (fun _ _ _ h => h) (yieldsIf_load_mid (by rfl) 26 (.tmp 2) rfl (w.heap.size) 0 rfl (u8s h) _ (fun _ H => HasS.a H) hu1 rfl hi1) hHeld ?_
  simp only [Act.put]
  refine wpAnyH_ready (rs := [2]) (by kernel_rfl) (by simp) ?_
  refine AllReadyH.cons rfl (fun K hK => ?_) AllReadyH.nil
  rw [if_pos (by rfl)]
  refine wp_build_dg k HK.out (.tmp 6) rfl rfl ?_
  refine hK.out _ _ (HasS.alloc hHeld _) (fun hHeld2 => ?_)
  clear hK K
  refine wpAnyH_ready (rs := [3]) (by kernel_rfl) (by simp) ?_
  refine AllReadyH.cons rfl (fun K hK => ?_) AllReadyH.nil
  go_simp
  have hk3 : BytesIn (((w.alloc (.cells (u8s h).toArray 26)).alloc (.cells (u8s k).toArray 23)).alloc (.cells (u8s k).toArray 23)).drew (some ⟨w.heap.size + 1 + 1, 0, none⟩) 32 [k] := by
    have h3 := one_key_drew ((w.alloc (.cells (u8s h).toArray 26)).alloc (.cells (u8s k).toArray 23)) k
    rwa [World.size_alloc, World.size_alloc] at h3
  refine (with_held ((hH.alloc (.cells (u8s k).toArray 23)).drew) HH.out HK.out _ hk3).mono ?_
  rintro e w' ⟨rfl, hx⟩
  dsimp only
  refine hK.out _ _ hx (fun hHeld3 => ?_)
  clear hK K
  refine wpAnyH_ready (rs := [5]) (by kernel_rfl) (by simp) ?_
  refine AllReadyH.cons rfl (fun K hK => ?_) AllReadyH.nil
  go_simp
  refine hK.out _ _ hx (fun hHeld4 => ?_)
  clear hK K
  refine wpAnyH_ready (rs := [6]) (by kernel_rfl) (by simp) ?_
  refine AllReadyH.cons rfl (fun K hK => ?_) AllReadyH.nil
  go_simp
  refine hK.out _ _ hx (fun hHeld5 => ?_)
  clear hK K
  refine wpAnyH_done (by kernel_rfl) ?_ _
  clear hHeld hHeld2 hHeld3 hHeld4 hHeld5 he1 he2 hi1 hi2 hu1 hu2
  go_wp2_with fail
  go_ret
  exact ⟨rfl, hx.below⟩
end Go.Proofs.Ytcpnlojcmlldpaa
