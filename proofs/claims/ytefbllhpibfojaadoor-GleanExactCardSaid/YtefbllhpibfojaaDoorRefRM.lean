/- The reference of layer 15: whether two lists of records (of ranges) are the same. -/
import Derived.Test.YtefbllhpibfojaaDoorGrpJ
namespace Go.Proofs.YtefbllhpibfojaaDoor
open Go.Proofs Stab Go.Shelf Go.RowKit Go.Lib Go.Sort

theorem take_ne {α : Type} [DecidableEq α] {a b : List α} {i : Nat} (ha : i < a.length) (hb : i < b.length) (h : a[i] ≠ b[i]) : decide (a = b) = false := by
  rw [decide_eq_false_iff_not]
  intro e
  subst e
  exact h rfl

set_option maxRecDepth 100000 in
set_option maxHeartbeats 1000000 in
theorem records_any (A B : Option Addr) (ca cb : Nat) (a b : List Rec) (na nb : Nat) (w : World) (hna : na = a.length) (hnb : nb = b.length) (hA : EncIn encR 65 w A a) (hB : EncIn encR 65 w B b) (hla : na < 1099511627776) (hlb : nb < 1099511627776) :
    Calls Tryd.prog 16 #[.slice A na ca, .slice B nb cb] w fun e w' => e = .returned (.bool (decide (a = b))) ∧ Below w.heap.size w w' := by
  have HEA := Lib.hid hA
  have HEB := Lib.hid hB
  have HNA := Lib.hid hna
  have HNB := Lib.hid hnb
  have HLR := Lib.hid (show ∀ x, (Tryd.prog.info? 38).map (·.size) = some (encR x).length from fun x => by rw [encR_len]; exact infoRec)
  clear hA hB hna hnb
  go_enter Tryd.func16, Tryd.ntmps16
  by_cases hl : na = nb
  case neg =>
    have hlz : ¬ (na : Int) = (nb : Int) := by omega
    have hd : decide (a = b) = false := by
      rw [decide_eq_false_iff_not]
      intro e
      rw [HNA.out, HNB.out, e] at hl
      exact hl rfl
    rw [hd]
    go_wp2_with fail
    go_ret
    exact ⟨rfl, Below.refl _ _⟩
  subst hl
  go_wp2_with fail
  go_loopg [5] na (fun gg s5 wr => ∃ i : Nat, s5 = .int .i64 i ∧ i ≤ na ∧ na - i ≤ gg ∧ a.take i = b.take i ∧ Hid (Below w.heap.size w wr))
  case atStart => exact ⟨0, rfl, Nat.zero_le _, by omega, by rw [List.take_zero, List.take_zero], Below.refl _ _⟩
  case round =>
    obtain ⟨i, rfl, hi, hgg, htk, HBW⟩ := hrel
    by_cases hlt : i < na
    · have hltz : (i : Int) < (na : Int) := by omega
      have i0 : (0 : Int) ≤ (i : Int) := by omega
      have hia : i < a.length := by have := HNA.out; omega
      have hib : i < b.length := by have := HNB.out; omega
      obtain ⟨gA, offA, hA, hglA, hrA⟩ := (HEA.out.up HBW.out).at hia
      obtain ⟨gB, offB, hB, hglB, hrB⟩ := (HEB.out.up HBW.out).at hib
      obtain ⟨x, hx⟩ : ∃ x, x = a[i] := ⟨_, rfl⟩
      obtain ⟨y, hy⟩ : ∃ y, y = b[i] := ⟨_, rfl⟩
      have HXY := Lib.hid (And.intro hx hy)
      have HAT := Lib.hid (show (∀ W, Behind wr W → W.rangeAt gA (offA + i * 65) (encR x)) ∧ (∀ W, Behind wr W → W.rangeAt gB (offB + i * 65) (encR y)) from by rw [hx, hy]; exact ⟨fun W hW => range_below' hrA hW hglA, fun W hW => range_below' hrB hW hglB⟩)
      clear hx hy
      subst hA hB
      by_cases hq : x = y
      · have HNE := Lib.hid (show ∀ w, (binOp .neq 38 (.agg (encR x).toArray) (.agg (encR y).toArray)).run Tryd.prog w = .ok (.bool false) w from fun w => by have h := run_neq_rec w x y; rw [decide_eq_true hq] at h; exact h)
        have hs : a.take (i + 1) = b.take (i + 1) := by
          rw [List.take_succ_eq_append_getElem hia, List.take_succ_eq_append_getElem hib, htk, ← HXY.out.1, ← HXY.out.2, hq]
        have HS := Lib.hid hs
        clear hq hs htk
        go_wp2_with fail
        refine wp_region_class (Behind wr) (by kernel_rfl) (by kernel_rfl) (Below.refl _ _).drew ?_
        iterate 9 (first
          | go_big_quiet_skip
          | (with_reducible refine wpQuiet_loadAll (by with_unfolding_all rfl) 38 _ (by with_unfolding_all rfl) gA (offA + i * 65) (by with_unfolding_all rfl) (encR x) _ (fun w h => HAT.out.1 w h) Tryd.underlying38 (by with_unfolding_all rfl) (HLR.out x) ?_; simp only [Act.put, List.setIfInBounds_toArray, List.set_cons_zero, List.set_cons_succ])
          | (with_reducible refine wpQuiet_loadAll (by with_unfolding_all rfl) 38 _ (by with_unfolding_all rfl) gB (offB + i * 65) (by with_unfolding_all rfl) (encR y) _ (fun w h => HAT.out.2 w h) Tryd.underlying38 (by with_unfolding_all rfl) (HLR.out y) ?_; simp only [Act.put, List.setIfInBounds_toArray, List.set_cons_zero, List.set_cons_succ])
          | (with_reducible refine wpQuiet_bin (by with_unfolding_all rfl) .neq 38 _ _ _ (by with_unfolding_all rfl) (.agg (encR x).toArray) (.agg (encR y).toArray) (.bool false) (by with_unfolding_all rfl) (by with_unfolding_all rfl) (fun w => run_eqGuard_rec w _ _ _ _ _) HNE.out ?_; simp only [Act.put, List.setIfInBounds_toArray, List.set_cons_zero, List.set_cons_succ])
          | (go_big_quiet_step (exact fun _ => rfl)))
        with_reducible refine wpQuiet_nil ?_
        intro w3 hw3
        have HBw3 := Lib.hid (show Below wr.heap.size wr w3 from hw3)
        clear hw3
        go_wp2_with fail
        go_roundg (na - (i + 1))
        case measure => omega
        case rel => exact ⟨i + 1, by go_num, by omega, Nat.le_refl _, HS.out, HBW.out.trans (HBw3.out.mono HBW.out.size)⟩
      · have HNE := Lib.hid (show ∀ w, (binOp .neq 38 (.agg (encR x).toArray) (.agg (encR y).toArray)).run Tryd.prog w = .ok (.bool true) w from fun w => by have h := run_neq_rec w x y; rw [decide_eq_false hq] at h; exact h)
        have hd : decide (a = b) = false := take_ne hia hib (by rw [← HXY.out.1, ← HXY.out.2]; exact hq)
        clear hq htk
        go_wp2_with fail
        refine wp_region_class (Behind wr) (by kernel_rfl) (by kernel_rfl) (Below.refl _ _).drew ?_
        iterate 9 (first
          | go_big_quiet_skip
          | (with_reducible refine wpQuiet_loadAll (by with_unfolding_all rfl) 38 _ (by with_unfolding_all rfl) gA (offA + i * 65) (by with_unfolding_all rfl) (encR x) _ (fun w h => HAT.out.1 w h) Tryd.underlying38 (by with_unfolding_all rfl) (HLR.out x) ?_; simp only [Act.put, List.setIfInBounds_toArray, List.set_cons_zero, List.set_cons_succ])
          | (with_reducible refine wpQuiet_loadAll (by with_unfolding_all rfl) 38 _ (by with_unfolding_all rfl) gB (offB + i * 65) (by with_unfolding_all rfl) (encR y) _ (fun w h => HAT.out.2 w h) Tryd.underlying38 (by with_unfolding_all rfl) (HLR.out y) ?_; simp only [Act.put, List.setIfInBounds_toArray, List.set_cons_zero, List.set_cons_succ])
          | (with_reducible refine wpQuiet_bin (by with_unfolding_all rfl) .neq 38 _ _ _ (by with_unfolding_all rfl) (.agg (encR x).toArray) (.agg (encR y).toArray) (.bool true) (by with_unfolding_all rfl) (by with_unfolding_all rfl) (fun w => run_eqGuard_rec w _ _ _ _ _) HNE.out ?_; simp only [Act.put, List.setIfInBounds_toArray, List.set_cons_zero, List.set_cons_succ])
          | (go_big_quiet_step (exact fun _ => rfl)))
        with_reducible refine wpQuiet_nil ?_
        intro w3 hw3
        have HBw3 := Lib.hid (show Below wr.heap.size wr w3 from hw3)
        clear hw3
        go_wp2_with fail
        go_ret
        exact ⟨by first | rfl | (rw [hd]; rfl), HBW.out.trans (HBw3.out.mono HBW.out.size)⟩
    · have hltz : ¬ (i : Int) < (na : Int) := by omega
      have hd : decide (a = b) = true := by
        rw [decide_eq_true_eq, ← List.take_of_length_le (l := a) (i := i) (by have := HNA.out; omega), htk, List.take_of_length_le (by have := HNB.out; omega)]
      go_wp2_with fail
      go_ret
      exact ⟨by first | rfl | (rw [hd]; rfl), HBW.out⟩

set_option maxRecDepth 100000 in
set_option maxHeartbeats 1000000 in
theorem ranges_any (A B : Option Addr) (ca cb : Nat) (a b : List Rng) (na nb : Nat) (w : World) (hna : na = a.length) (hnb : nb = b.length) (hA : EncIn encG 35 w A a) (hB : EncIn encG 35 w B b) (hla : na < 1099511627776) (hlb : nb < 1099511627776) :
    Calls Tryd.prog 26 #[.slice A na ca, .slice B nb cb] w fun e w' => e = .returned (.bool (decide (a = b))) ∧ Below w.heap.size w w' := by
  have HEA := Lib.hid hA
  have HEB := Lib.hid hB
  have HNA := Lib.hid hna
  have HNB := Lib.hid hnb
  have HLR := Lib.hid (show ∀ x, (Tryd.prog.info? 26).map (·.size) = some (encG x).length from fun x => by rw [encG_len]; exact infoRng)
  clear hA hB hna hnb
  go_enter Tryd.func26, Tryd.ntmps26
  by_cases hl : na = nb
  case neg =>
    have hlz : ¬ (na : Int) = (nb : Int) := by omega
    have hd : decide (a = b) = false := by
      rw [decide_eq_false_iff_not]
      intro e
      rw [HNA.out, HNB.out, e] at hl
      exact hl rfl
    rw [hd]
    go_wp2_with fail
    go_ret
    exact ⟨rfl, Below.refl _ _⟩
  subst hl
  go_wp2_with fail
  go_loopg [5] na (fun gg s5 wr => ∃ i : Nat, s5 = .int .i64 i ∧ i ≤ na ∧ na - i ≤ gg ∧ a.take i = b.take i ∧ Hid (Below w.heap.size w wr))
  case atStart => exact ⟨0, rfl, Nat.zero_le _, by omega, by rw [List.take_zero, List.take_zero], Below.refl _ _⟩
  case round =>
    obtain ⟨i, rfl, hi, hgg, htk, HBW⟩ := hrel
    by_cases hlt : i < na
    · have hltz : (i : Int) < (na : Int) := by omega
      have i0 : (0 : Int) ≤ (i : Int) := by omega
      have hia : i < a.length := by have := HNA.out; omega
      have hib : i < b.length := by have := HNB.out; omega
      obtain ⟨gA, offA, hA, hglA, hrA⟩ := (HEA.out.up HBW.out).at hia
      obtain ⟨gB, offB, hB, hglB, hrB⟩ := (HEB.out.up HBW.out).at hib
      obtain ⟨x, hx⟩ : ∃ x, x = a[i] := ⟨_, rfl⟩
      obtain ⟨y, hy⟩ : ∃ y, y = b[i] := ⟨_, rfl⟩
      have HXY := Lib.hid (And.intro hx hy)
      have HAT := Lib.hid (show (∀ W, Behind wr W → W.rangeAt gA (offA + i * 35) (encG x)) ∧ (∀ W, Behind wr W → W.rangeAt gB (offB + i * 35) (encG y)) from by rw [hx, hy]; exact ⟨fun W hW => range_below' hrA hW hglA, fun W hW => range_below' hrB hW hglB⟩)
      clear hx hy
      subst hA hB
      by_cases hq : x = y
      · have HNE := Lib.hid (show ∀ w, (binOp .neq 26 (.agg (encG x).toArray) (.agg (encG y).toArray)).run Tryd.prog w = .ok (.bool false) w from fun w => by have h := run_neq_rng w x y; rw [decide_eq_true hq] at h; exact h)
        have hs : a.take (i + 1) = b.take (i + 1) := by
          rw [List.take_succ_eq_append_getElem hia, List.take_succ_eq_append_getElem hib, htk, ← HXY.out.1, ← HXY.out.2, hq]
        have HS := Lib.hid hs
        clear hq hs htk
        go_wp2_with fail
        refine wp_region_class (Behind wr) (by kernel_rfl) (by kernel_rfl) (Below.refl _ _).drew ?_
        iterate 9 (first
          | go_big_quiet_skip
          | (with_reducible refine wpQuiet_loadAll (by with_unfolding_all rfl) 26 _ (by with_unfolding_all rfl) gA (offA + i * 35) (by with_unfolding_all rfl) (encG x) _ (fun w h => HAT.out.1 w h) Tryd.underlying26 (by with_unfolding_all rfl) (HLR.out x) ?_; simp only [Act.put, List.setIfInBounds_toArray, List.set_cons_zero, List.set_cons_succ])
          | (with_reducible refine wpQuiet_loadAll (by with_unfolding_all rfl) 26 _ (by with_unfolding_all rfl) gB (offB + i * 35) (by with_unfolding_all rfl) (encG y) _ (fun w h => HAT.out.2 w h) Tryd.underlying26 (by with_unfolding_all rfl) (HLR.out y) ?_; simp only [Act.put, List.setIfInBounds_toArray, List.set_cons_zero, List.set_cons_succ])
          | (with_reducible refine wpQuiet_bin (by with_unfolding_all rfl) .neq 26 _ _ _ (by with_unfolding_all rfl) (.agg (encG x).toArray) (.agg (encG y).toArray) (.bool false) (by with_unfolding_all rfl) (by with_unfolding_all rfl) (fun w => run_eqGuard_rng w _ _ _ _ _) HNE.out ?_; simp only [Act.put, List.setIfInBounds_toArray, List.set_cons_zero, List.set_cons_succ])
          | (go_big_quiet_step (exact fun _ => rfl)))
        with_reducible refine wpQuiet_nil ?_
        intro w3 hw3
        have HBw3 := Lib.hid (show Below wr.heap.size wr w3 from hw3)
        clear hw3
        go_wp2_with fail
        go_roundg (na - (i + 1))
        case measure => omega
        case rel => exact ⟨i + 1, by go_num, by omega, Nat.le_refl _, HS.out, HBW.out.trans (HBw3.out.mono HBW.out.size)⟩
      · have HNE := Lib.hid (show ∀ w, (binOp .neq 26 (.agg (encG x).toArray) (.agg (encG y).toArray)).run Tryd.prog w = .ok (.bool true) w from fun w => by have h := run_neq_rng w x y; rw [decide_eq_false hq] at h; exact h)
        have hd : decide (a = b) = false := take_ne hia hib (by rw [← HXY.out.1, ← HXY.out.2]; exact hq)
        clear hq htk
        go_wp2_with fail
        refine wp_region_class (Behind wr) (by kernel_rfl) (by kernel_rfl) (Below.refl _ _).drew ?_
        iterate 9 (first
          | go_big_quiet_skip
          | (with_reducible refine wpQuiet_loadAll (by with_unfolding_all rfl) 26 _ (by with_unfolding_all rfl) gA (offA + i * 35) (by with_unfolding_all rfl) (encG x) _ (fun w h => HAT.out.1 w h) Tryd.underlying26 (by with_unfolding_all rfl) (HLR.out x) ?_; simp only [Act.put, List.setIfInBounds_toArray, List.set_cons_zero, List.set_cons_succ])
          | (with_reducible refine wpQuiet_loadAll (by with_unfolding_all rfl) 26 _ (by with_unfolding_all rfl) gB (offB + i * 35) (by with_unfolding_all rfl) (encG y) _ (fun w h => HAT.out.2 w h) Tryd.underlying26 (by with_unfolding_all rfl) (HLR.out y) ?_; simp only [Act.put, List.setIfInBounds_toArray, List.set_cons_zero, List.set_cons_succ])
          | (with_reducible refine wpQuiet_bin (by with_unfolding_all rfl) .neq 26 _ _ _ (by with_unfolding_all rfl) (.agg (encG x).toArray) (.agg (encG y).toArray) (.bool true) (by with_unfolding_all rfl) (by with_unfolding_all rfl) (fun w => run_eqGuard_rng w _ _ _ _ _) HNE.out ?_; simp only [Act.put, List.setIfInBounds_toArray, List.set_cons_zero, List.set_cons_succ])
          | (go_big_quiet_step (exact fun _ => rfl)))
        with_reducible refine wpQuiet_nil ?_
        intro w3 hw3
        have HBw3 := Lib.hid (show Below wr.heap.size wr w3 from hw3)
        clear hw3
        go_wp2_with fail
        go_ret
        exact ⟨by first | rfl | (rw [hd]; rfl), HBW.out.trans (HBw3.out.mono HBW.out.size)⟩
    · have hltz : ¬ (i : Int) < (na : Int) := by omega
      have hd : decide (a = b) = true := by
        rw [decide_eq_true_eq, ← List.take_of_length_le (l := a) (i := i) (by have := HNA.out; omega), htk, List.take_of_length_le (by have := HNB.out; omega)]
      go_wp2_with fail
      go_ret
      exact ⟨by first | rfl | (rw [hd]; rfl), HBW.out⟩
end Go.Proofs.YtefbllhpibfojaaDoor
