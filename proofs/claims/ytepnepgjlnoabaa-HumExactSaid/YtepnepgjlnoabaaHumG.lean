/- Layer 11: Take's comparison; slices.SortStableFunc at a short row of rumours' pointers. -/
import Derived.Ground.SlsfProg
import Derived.Shelf.SlSortCmp.Insertion1
import Derived.Lib.OwnBridge
import Derived.Test.YtepnepgjlnoabaaHumF
namespace Go.Proofs
open Go.RowKit Go.Sort Go.Shelf
shelf_lay_g SlLaysF.n20 Slsf 20 at Try 31 as Try.insR
end Go.Proofs
namespace Go.Proofs.Ytepnepgjlnoabaa
open Go.Proofs Stab Go.Shelf Go.RowKit Go.Lib Go.Sort Go.Maps

theorem nan_any (n : Int) (w : World) : Calls Try.prog 27 #[.int .i64 n] w fun e w' => e = .returned (.bool false) ∧ w = w' := by
  go_enter Try.func27, Try.ntmps27
  go_wp2_with fail
  go_ret
  exact ⟨by first | rfl | simp, rfl⟩
def cmpZ (a b : Int) : Int := if a < b then -1 else if b < a then 1 else 0
theorem compare_any11 (a b : Int) (w : World) : Calls Try.prog 22 #[.int .i64 a, .int .i64 b] w fun e w' => e = .returned (.int .i64 (cmpZ a b)) ∧ w = w' := by
  have HN := Lib.hid nan_any
  have hc : (a < b ∧ cmpZ a b = -1) ∨ (¬ a < b ∧ b < a ∧ cmpZ a b = 1) ∨ (¬ a < b ∧ ¬ b < a ∧ cmpZ a b = 0) := by
    unfold cmpZ
    by_cases h1 : a < b
    · simp [h1]
    · by_cases h2 : b < a <;> simp [h1, h2]
  rcases hc with ⟨h1, he⟩ | ⟨h1, h2, he⟩ | ⟨h1, h2, he⟩ <;> rw [he] <;> clear he
  · go_enter Try.func22, Try.ntmps22
    go_wp2_with (go_at_call 27; refine Calls.mono (HN.out _ _) ?_; rintro e w' ⟨rfl, rfl⟩)
    go_ret
    exact ⟨rfl, rfl⟩
  · go_enter Try.func22, Try.ntmps22
    go_wp2_with (go_at_call 27; refine Calls.mono (HN.out _ _) ?_; rintro e w' ⟨rfl, rfl⟩)
    go_ret
    exact ⟨rfl, rfl⟩
  · go_enter Try.func22, Try.ntmps22
    go_wp2_with (go_at_call 27; refine Calls.mono (HN.out _ _) ?_; rintro e w' ⟨rfl, rfl⟩)
    go_ret
    exact ⟨rfl, rfl⟩
theorem cmpZ_cfR (a b : Rum) : cmpZ b.k a.k = Hm.cfR a b := rfl
set_option maxRecDepth 100000 in
set_option maxHeartbeats 1000000 in
theorem cmp_rum {a b : Nat} {x y : Rum} {w : World} (ha : At w a 48 (rumC x)) (hb : At w b 48 (rumC y)) :
    Calls Try.prog 21 #[.pointer (some ⟨a, 0, none⟩), .pointer (some ⟨b, 0, none⟩)] w fun e w' => e = .returned (.int .i64 (Hm.cfR x y)) ∧ w' = w.drew := by
  have c0 := ha.cell' (i := 3) (v := .int .i64 x.k) rfl
  have c1 := hb.cell' (i := 3) (v := .int .i64 y.k) rfl
  have HC := Lib.hid (compare_any11 y.k x.k)
  clear ha hb
  rw [← cmpZ_cfR]
  go_enter Try.func21, Try.ntmps21
  go_wp2_with fail
  refine wp_region_mix [(0, true), (4, true), (1, true), (2, true), (3, true), (5, true), (6, true), (7, true), (8, false), (9, true)] (fun w' => ∃ n, w' = w.drewN n)
    (by kernel_rfl) (by kernel_rfl) (fun _ _ d _ _ h => by cases d <;> exact h) (by kernel_rfl) (by decide) ⟨1, rfl⟩ ?_
  iterate 2 (
    refine wpMix_q (by with_unfolding_all rfl) (by kernel_rfl) ?_
    go_big_quiet_step (exact fun _ => rfl)
    refine wpMix_qnil ?_)
  refine wpMix_val (.pointer (some ⟨b, 0, none⟩)) (by with_unfolding_all rfl) (by with_unfolding_all rfl) (fun w _ => exec_nil _ (by with_unfolding_all rfl) b 0 (by with_unfolding_all rfl) w) ?_
  simp only [Act.put, List.setIfInBounds_toArray, List.set_cons_zero, List.set_cons_succ]
  iterate 2 (
    refine wpMix_q (by with_unfolding_all rfl) (by kernel_rfl) ?_
    go_big_quiet_step (exact fun _ => rfl)
    refine wpMix_qnil ?_)
  refine wpMix_val (.pointer (some ⟨a, 0, none⟩)) (by with_unfolding_all rfl) (by with_unfolding_all rfl) (fun w _ => exec_nil _ (by with_unfolding_all rfl) a 0 (by with_unfolding_all rfl) w) ?_
  simp only [Act.put, List.setIfInBounds_toArray, List.set_cons_zero, List.set_cons_succ]
  iterate 2 (
    refine wpMix_q (by with_unfolding_all rfl) (by kernel_rfl) ?_
    go_big_quiet_step (exact fun _ => rfl)
    refine wpMix_qnil ?_)
  refine wpMix_call 22 [.int .i64 y.k, .int .i64 x.k] (fun v w' => v = .int .i64 (cmpZ y.k x.k) ∧ w' = w.drew) (by with_unfolding_all rfl) (by with_unfolding_all rfl) (by with_unfolding_all rfl) ((HC.out _).mono (fun e w' ⟨he, hb⟩ => ⟨_, he, ⟨1, hb.symm⟩, rfl, hb.symm⟩)) ?_
  rintro v z1 _ ⟨rfl, rfl⟩
  simp only [Act.put, List.setIfInBounds_toArray, List.set_cons_zero, List.set_cons_succ]
  refine wpMix_q (by with_unfolding_all rfl) (by kernel_rfl) ?_
  go_big_quiet_step (exact fun _ => rfl)
  refine wpMix_qnil ?_
  refine wpMix_nil ?_
  go_wp2_with fail
  go_ret
  exact ⟨rfl, rfl⟩
end Go.Proofs.Ytepnepgjlnoabaa
