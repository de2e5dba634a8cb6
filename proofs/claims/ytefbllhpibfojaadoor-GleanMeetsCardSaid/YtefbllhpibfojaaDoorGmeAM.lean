/- GleanMeets: kept, same, keys, quiet: what they compute. -/
import Derived.Test.YtefbllhpibfojaaDoorGleNM
import Derived.Test.YtefbllhpibfojaaDoorGsmPM
import Derived.Test.YtefbllhpibfojaaDoorGrpC
namespace Go.Proofs.YtefbllhpibfojaaDoor
open Go.Proofs Stab Go.Shelf Go.RowKit Go.Lib Go.Sort

theorem take_ne16 {α : Type} [DecidableEq α] {a b : List α} {i : Nat} (ha : i < a.length) (hb : i < b.length) (h : a[i] ≠ b[i]) : decide (a = b) = false := by
  rw [decide_eq_false_iff_not]
  intro e
  subst e
  exact h rfl
theorem Behind.trM {a b c : World} (h : Behind a b) (k : Behind b c) : Behind a c := Below.trans h (Below.mono k (Below.size h))
theorem wpList_noneM {α : Type} {enc : α → List Value} {P : Program} {ops : Array Oper} {Q : Exit → Act → World → Prop} {rest : List Oper} {o : Oper} {a : Act} {w : World} {t e k : Nat} (hw : Region.wanted o (yielded ops a.tmps) = true) (ho : o.op = .buildSlice t 0 #[]) (hu : P.underlying t = some (.slice e)) (hz : ∀ w, (Go.sizeOf e).run P w = .ok k w)
    (h : ∀ g w', g = w.heap.size → w'.heap.size = w.heap.size + 1 → Own w' g e k (.slice (some ⟨g, 0, none⟩) 0 0) 0 (([] : List α).flatMap enc) → Below w.heap.size w w' → wpList P ops Q rest (a.put o.dst (.slice (some ⟨g, 0, none⟩) 0 0)) w') : wpList P ops Q (o :: rest) a w :=
  wpList_to _ _ hw (exec_none ho hu hz w) (h _ _ rfl (by simp) (own_none (k := k) (enc := enc) w e (base := w.heap.size) (Nat.le_refl _)) ((Below.refl _ _).alloc (Nat.le_refl _) _))
set_option maxRecDepth 100000 in
set_option maxHeartbeats 4000000 in
theorem kept_any (A : Option Addr) (c n : Nat) (a : List Rec) (B : Option Addr) (d m : Nat) (b : List Rec) (w : World) (hna : n = a.length) (hnb : m = b.length) (hA : EncIn encR 65 w A a) (hB : EncIn encR 65 w B b) (hla : n < 1000000) (hlb : m < 1000000) (N : Nat) (hN : N = (keptR a b).length) :
    Calls Tryd.prog 38 #[.slice A n c, .slice B m d] w fun e w' => ∃ A' c', e = .returned (.slice A' N c') ∧ N ≤ c' ∧ EncIn encR 65 w' A' (keptR a b) ∧ Below w.heap.size w w' := by
  have HA := Lib.hid hA
  have HB := Lib.hid hB
  have HNA := Lib.hid hna
  have HNB := Lib.hid hnb
  have HSO := Lib.hid (show ∀ (Q : Option Addr) (q k : Nat) W, k = (a ++ b).length → EncIn encR 65 W Q (a ++ b) → Calls Tryd.prog 20 #[.slice Q k q] W fun e w' => ∃ A' c', e = .returned (.slice A' N c') ∧ N ≤ c' ∧ EncIn encR 65 w' A' (keptR a b) ∧ Below W.heap.size W w' from fun Q q k W hk hQ => sort_slice Q q (a ++ b) W k N hk hN hQ (by rw [hk, List.length_append]; omega))
  clear hA hB hna hnb hN
  go_enter Tryd.func38, Tryd.ntmps38
  go_wp2_with (first
    | (with_reducible refine wpList_noneM (α := Rec) (enc := encR) rfl rfl Tryd.underlying22 sizeRec ?_; intro g5 w2 hg hs hO hb; have HO5 := Lib.hid hO; have HB5 := Lib.hid hb; have HG5 := Lib.hid (show w.heap.size ≤ g5 ∧ g5 ≤ w2.heap.size by omega); have HA2 := Lib.hid (HA.out.up hb); clear hg hs hO hb)
    | (at_builtin; refine wpList_append_enc (enc := encR) (k := 65) rfl rfl (.tmp 5) (.tmp 6) 22 38 72 rfl _ Tryd.underlying22 info3Rec rfl (by decide) g5 (.slice (some ⟨g5, 0, none⟩) 0 0) 0 [] a rfl HO5.out (fun _ _ => encR_len _) (fun _ _ => encR_one _) A n c rfl HNA.out HA2.out (by rw [← HNA.out]; unfold maxLen; omega) (by rw [← HNA.out]; omega) HG5.out.2 ?_; intro v7 w3 hO7 hg7 hob; have HB7 := Lib.hid (show Below w.heap.size w w3 from own_below2 HO5.out HB5.out HG5.out.1 (Nat.le_trans HG5.out.1 HG5.out.2) hg7); have HG7 := Lib.hid (Nat.le_trans HG5.out.2 hg7.size); rw [List.nil_append, Nat.zero_add, ← HNA.out] at hO7; have HO7 := Lib.hid hO7; have HB3 := Lib.hid (HB.out.up HB7.out); clear hO7 hg7 hob)
    | (at_builtin; refine wpList_append_enc (enc := encR) (k := 65) rfl rfl (.tmp 7) (.tmp 8) 22 38 72 rfl _ Tryd.underlying22 info3Rec rfl (by decide) g5 v7 n a b rfl HO7.out (fun _ _ => encR_len _) (fun _ _ => encR_one _) B m d rfl HNB.out HB3.out (by rw [← HNB.out]; unfold maxLen; omega) (by rw [← HNB.out]; omega) HG7.out ?_; intro v9 w4 hO9 hg9 hob; have HB9 := Lib.hid (show Below w.heap.size w w4 from own_below2 HO7.out HB7.out HG5.out.1 (Nat.le_trans HG5.out.1 HG7.out) hg9); rw [← HNB.out] at hO9; have hk9 : n + m = (a ++ b).length := (by rw [List.length_append, ← HNA.out, ← HNB.out]); obtain ⟨A9, c9, hv9, hc9, hE9⟩ := hO9.rows hk9 (fun x _ => encR_len x); have HE9 := Lib.hid hE9; have HK9 := Lib.hid hk9; subst hv9; clear hO9 hg9 hob hE9 hc9 hk9)
    | (go_at_call 20; (with_reducible refine Calls.mono (HSO.out _ _ _ _ HK9.out HE9.out) ?_); rintro e w5 ⟨A10, c10, rfl, hcN, hE, hb⟩; have HE10 := Lib.hid hE; have HB10 := Lib.hid (HB9.out.trans (hb.mono HB9.out.size)); clear hE hb))
  go_ret
  exact ⟨_, _, rfl, hcN, HE10.out, HB10.out⟩

set_option maxRecDepth 100000 in
set_option maxHeartbeats 1000000 in
theorem same16_any (A B : Option Addr) (ca cb : Nat) (a b : List Rec) (na nb : Nat) (w : World) (hna : na = a.length) (hnb : nb = b.length) (hA : EncIn encR 65 w A a) (hB : EncIn encR 65 w B b) (hla : na < 1099511627776) (hlb : nb < 1099511627776) :
    Calls Tryd.prog 76 #[.slice A na ca, .slice B nb cb] w fun e w' => e = .returned (.bool (decide (a = b))) ∧ Below w.heap.size w w' := by
  have HEA := Lib.hid hA
  have HEB := Lib.hid hB
  have HNA := Lib.hid hna
  have HNB := Lib.hid hnb
  have HLR := Lib.hid (show ∀ x, (Tryd.prog.info? 38).map (·.size) = some (encR x).length from fun x => by rw [encR_len]; exact infoRec)
  clear hA hB hna hnb
  go_enter Tryd.func76, Tryd.ntmps76
  by_cases hl : na = nb
  case neg =>
    have hlz : ¬ (na : Int) = (nb : Int) := by omega
    have hd : decide (a = b) = false := by
      rw [decide_eq_false_iff_not]
      intro e
      rw [HNA.out, HNB.out, e] at hl
      exact hl rfl
    rw [hd]
    go_wp2_with fail
    go_ret
    exact ⟨rfl, Below.refl _ _⟩
  subst hl
  go_wp2_with fail
  go_loopg [5] na (fun gg s5 wr => ∃ i : Nat, s5 = .int .i64 i ∧ i ≤ na ∧ na - i ≤ gg ∧ a.take i = b.take i ∧ Hid (Below w.heap.size w wr))
  case atStart => exact ⟨0, rfl, Nat.zero_le _, by omega, by rw [List.take_zero, List.take_zero], Below.refl _ _⟩
  case round =>
    obtain ⟨i, rfl, hi, hgg, htk, HBW⟩ := hrel
    by_cases hlt : i < na
    · have hltz : (i : Int) < (na : Int) := by omega
      have i0 : (0 : Int) ≤ (i : Int) := by omega
      have hia : i < a.length := by have := HNA.out; omega
      have hib : i < b.length := by have := HNB.out; omega
      obtain ⟨gA, offA, hA, hglA, hrA⟩ := (HEA.out.up HBW.out).at hia
      obtain ⟨gB, offB, hB, hglB, hrB⟩ := (HEB.out.up HBW.out).at hib
      obtain ⟨x, hx⟩ : ∃ x, x = a[i] := ⟨_, rfl⟩
      obtain ⟨y, hy⟩ : ∃ y, y = b[i] := ⟨_, rfl⟩
      have HXY := Lib.hid (And.intro hx hy)
      have HAT := Lib.hid (show (∀ W, Behind wr W → W.rangeAt gA (offA + i * 65) (encR x)) ∧ (∀ W, Behind wr W → W.rangeAt gB (offB + i * 65) (encR y)) from by rw [hx, hy]; exact ⟨fun W hW => range_below' hrA hW hglA, fun W hW => range_below' hrB hW hglB⟩)
      clear hx hy
      subst hA hB
      by_cases hq : x = y
      · have HNE := Lib.hid (show ∀ w, (binOp .neq 38 (.agg (encR x).toArray) (.agg (encR y).toArray)).run Tryd.prog w = .ok (.bool false) w from fun w => by have h := run_neq_rec w x y; rw [decide_eq_true hq] at h; exact h)
        have hs : a.take (i + 1) = b.take (i + 1) := by
          rw [List.take_succ_eq_append_getElem hia, List.take_succ_eq_append_getElem hib, htk, ← HXY.out.1, ← HXY.out.2, hq]
        have HS := Lib.hid hs
        clear hq hs htk
        go_wp2_with fail
        refine wp_region_class (Behind wr) (by kernel_rfl) (by kernel_rfl) (Below.refl _ _).drew ?_
        iterate 9 (first
          | go_big_quiet_skip
          | (with_reducible refine wpQuiet_loadAll (by with_unfolding_all rfl) 38 _ (by with_unfolding_all rfl) gA (offA + i * 65) (by with_unfolding_all rfl) (encR x) _ (fun w h => HAT.out.1 w h) Tryd.underlying38 (by with_unfolding_all rfl) (HLR.out x) ?_; simp only [Act.put, List.setIfInBounds_toArray, List.set_cons_zero, List.set_cons_succ])
          | (with_reducible refine wpQuiet_loadAll (by with_unfolding_all rfl) 38 _ (by with_unfolding_all rfl) gB (offB + i * 65) (by with_unfolding_all rfl) (encR y) _ (fun w h => HAT.out.2 w h) Tryd.underlying38 (by with_unfolding_all rfl) (HLR.out y) ?_; simp only [Act.put, List.setIfInBounds_toArray, List.set_cons_zero, List.set_cons_succ])
          | (with_reducible refine wpQuiet_bin (by with_unfolding_all rfl) .neq 38 _ _ _ (by with_unfolding_all rfl) (.agg (encR x).toArray) (.agg (encR y).toArray) (.bool false) (by with_unfolding_all rfl) (by with_unfolding_all rfl) (fun w => run_eqGuard_rec w _ _ _ _ _) HNE.out ?_; simp only [Act.put, List.setIfInBounds_toArray, List.set_cons_zero, List.set_cons_succ])
          | (go_big_quiet_step (exact fun _ => rfl)))
        with_reducible refine wpQuiet_nil ?_
        intro w3 hw3
        have HBw3 := Lib.hid (show Below wr.heap.size wr w3 from hw3)
        clear hw3
        go_wp2_with fail
        go_roundg (na - (i + 1))
        case measure => omega
        case rel => exact ⟨i + 1, by go_num, by omega, Nat.le_refl _, HS.out, HBW.out.trans (HBw3.out.mono HBW.out.size)⟩
      · have HNE := Lib.hid (show ∀ w, (binOp .neq 38 (.agg (encR x).toArray) (.agg (encR y).toArray)).run Tryd.prog w = .ok (.bool true) w from fun w => by have h := run_neq_rec w x y; rw [decide_eq_false hq] at h; exact h)
        have hd : decide (a = b) = false := take_ne16 hia hib (by rw [← HXY.out.1, ← HXY.out.2]; exact hq)
        clear hq htk
        go_wp2_with fail
        refine wp_region_class (Behind wr) (by kernel_rfl) (by kernel_rfl) (Below.refl _ _).drew ?_
        iterate 9 (first
          | go_big_quiet_skip
          | (with_reducible refine wpQuiet_loadAll (by with_unfolding_all rfl) 38 _ (by with_unfolding_all rfl) gA (offA + i * 65) (by with_unfolding_all rfl) (encR x) _ (fun w h => HAT.out.1 w h) Tryd.underlying38 (by with_unfolding_all rfl) (HLR.out x) ?_; simp only [Act.put, List.setIfInBounds_toArray, List.set_cons_zero, List.set_cons_succ])
          | (with_reducible refine wpQuiet_loadAll (by with_unfolding_all rfl) 38 _ (by with_unfolding_all rfl) gB (offB + i * 65) (by with_unfolding_all rfl) (encR y) _ (fun w h => HAT.out.2 w h) Tryd.underlying38 (by with_unfolding_all rfl) (HLR.out y) ?_; simp only [Act.put, List.setIfInBounds_toArray, List.set_cons_zero, List.set_cons_succ])
          | (with_reducible refine wpQuiet_bin (by with_unfolding_all rfl) .neq 38 _ _ _ (by with_unfolding_all rfl) (.agg (encR x).toArray) (.agg (encR y).toArray) (.bool true) (by with_unfolding_all rfl) (by with_unfolding_all rfl) (fun w => run_eqGuard_rec w _ _ _ _ _) HNE.out ?_; simp only [Act.put, List.setIfInBounds_toArray, List.set_cons_zero, List.set_cons_succ])
          | (go_big_quiet_step (exact fun _ => rfl)))
        with_reducible refine wpQuiet_nil ?_
        intro w3 hw3
        have HBw3 := Lib.hid (show Below wr.heap.size wr w3 from hw3)
        clear hw3
        go_wp2_with fail
        go_ret
        exact ⟨by first | rfl | (rw [hd]; rfl), HBW.out.trans (HBw3.out.mono HBW.out.size)⟩
    · have hltz : ¬ (i : Int) < (na : Int) := by omega
      have hd : decide (a = b) = true := by
        rw [decide_eq_true_eq, ← List.take_of_length_le (l := a) (i := i) (by have := HNA.out; omega), htk, List.take_of_length_le (by have := HNB.out; omega)]
      go_wp2_with fail
      go_ret
      exact ⟨by first | rfl | (rw [hd]; rfl), HBW.out⟩

set_option maxRecDepth 100000 in
set_option maxHeartbeats 1000000 in
theorem keys_any (A B : Option Addr) (ca cb : Nat) (a b : List Rec) (na nb : Nat) (w : World) (hna : na = a.length) (hnb : nb = b.length) (hA : EncIn encR 65 w A a) (hB : EncIn encR 65 w B b) (hla : na < 1099511627776) (hlb : nb < 1099511627776) :
    Calls Tryd.prog 40 #[.slice A na ca, .slice B nb cb] w fun e w' => e = .returned (.bool (keysB a b)) ∧ Below w.heap.size w w' := by
  have HEA := Lib.hid hA
  have HEB := Lib.hid hB
  have HNA := Lib.hid hna
  have HNB := Lib.hid hnb
  have HLR := Lib.hid (show ∀ x, (Tryd.prog.info? 38).map (·.size) = some (encR x).length from fun x => by rw [encR_len]; exact infoRec)
  have HUD := Lib.hid Tryd.underlying24
  have HDG := Lib.hid (show ∀ l : List UInt8, l.length = 32 → (Tryd.prog.info? 24).map (·.size) = some (u8s l).length from fun l hl => by rw [u8s_length, hl]; exact infoDg)
  clear hA hB hna hnb
  go_enter Tryd.func40, Tryd.ntmps40
  by_cases hl : na = nb
  case neg =>
    have hlz : ¬ (na : Int) = (nb : Int) := by omega
    have hd : keysB a b = false := by
      unfold keysB
      rw [decide_eq_false_iff_not]
      intro e
      have e2 := congrArg List.length e
      rw [List.length_map, List.length_map] at e2
      have h1 := HNA.out
      have h2 := HNB.out
      omega
    rw [hd]
    go_wp2_with fail
    go_ret
    exact ⟨rfl, Below.refl _ _⟩
  subst hl
  go_wp2_with fail
  go_loopg [5] na (fun gg s5 wr => ∃ i : Nat, s5 = .int .i64 i ∧ i ≤ na ∧ na - i ≤ gg ∧ (a.take i).map (·.key) = (b.take i).map (·.key) ∧ Hid (Below w.heap.size w wr))
  case atStart => exact ⟨0, rfl, Nat.zero_le _, by omega, by rw [List.take_zero, List.take_zero], Below.refl _ _⟩
  case round =>
    obtain ⟨i, rfl, hi, hgg, htk, HBW⟩ := hrel
    by_cases hlt : i < na
    · have hltz : (i : Int) < (na : Int) := by omega
      have i0 : (0 : Int) ≤ (i : Int) := by omega
      have hia : i < a.length := by have := HNA.out; omega
      have hib : i < b.length := by have := HNB.out; omega
      obtain ⟨gA, offA, hA, hglA, hrA⟩ := (HEA.out.up HBW.out).at hia
      obtain ⟨gB, offB, hB, hglB, hrB⟩ := (HEB.out.up HBW.out).at hib
      obtain ⟨x, hx⟩ : ∃ x, x = a[i] := ⟨_, rfl⟩
      obtain ⟨y, hy⟩ : ∃ y, y = b[i] := ⟨_, rfl⟩
      have HXY := Lib.hid (And.intro hx hy)
      have HAT := Lib.hid (show (∀ W, Behind wr W → W.rangeAt gA (offA + i * 65) (encR x)) ∧ (∀ W, Behind wr W → W.rangeAt gB (offB + i * 65) (encR y)) from by rw [hx, hy]; exact ⟨fun W hW => range_below' hrA hW hglA, fun W hW => range_below' hrB hW hglB⟩)
      clear hx hy
      subst hA hB
      by_cases hq : x.key = y.key
      · have HNE := Lib.hid (show ∀ w, (binOp .neq 24 (.agg (u8s x.key).toArray) (.agg (u8s y.key).toArray)).run Tryd.prog w = .ok (.bool false) w from fun w => by have h := run_neq_dg w x.key y.key x.hk y.hk; rw [beq_iff_eq.2 hq] at h; exact h)
        have hs : (a.take (i + 1)).map (·.key) = (b.take (i + 1)).map (·.key) := by
          rw [List.take_succ_eq_append_getElem hia, List.take_succ_eq_append_getElem hib, List.map_append, List.map_append, htk, ← HXY.out.1, ← HXY.out.2]; simp [hq]
        have HS := Lib.hid hs
        clear hq hs htk
        go_wp2_with fail
        refine wp_region_class (Behind wr) (by kernel_rfl) (by kernel_rfl) (Below.refl _ _).drew ?_
        iterate 11 (first
          | go_big_quiet_skip
          | (with_reducible refine wpQuiet_loadAll (by with_unfolding_all rfl) 24 _ (by with_unfolding_all rfl) gA (offA + i * 65) (by with_unfolding_all rfl) (u8s x.key) _ (fun w h => rec_key (HAT.out.1 w h)) HUD.out (by with_unfolding_all rfl) (HDG.out _ x.hk) ?_; simp only [Act.put, List.setIfInBounds_toArray, List.set_cons_zero, List.set_cons_succ])
          | (with_reducible refine wpQuiet_loadAll (by with_unfolding_all rfl) 24 _ (by with_unfolding_all rfl) gB (offB + i * 65) (by with_unfolding_all rfl) (u8s y.key) _ (fun w h => rec_key (HAT.out.2 w h)) HUD.out (by with_unfolding_all rfl) (HDG.out _ y.hk) ?_; simp only [Act.put, List.setIfInBounds_toArray, List.set_cons_zero, List.set_cons_succ])
          | (with_reducible refine wpQuiet_bin (by with_unfolding_all rfl) .neq 24 _ _ _ (by with_unfolding_all rfl) (.agg (u8s x.key).toArray) (.agg (u8s y.key).toArray) (.bool false) (by with_unfolding_all rfl) (by with_unfolding_all rfl) (fun w => run_eqGuard_dg w _ _ _ _ _) HNE.out ?_; simp only [Act.put, List.setIfInBounds_toArray, List.set_cons_zero, List.set_cons_succ])
          | (go_big_quiet_step (exact fun _ => rfl)))
        with_reducible refine wpQuiet_nil ?_
        intro w3 hw3
        have HBw3 := Lib.hid (show Below wr.heap.size wr w3 from hw3)
        clear hw3
        go_wp2_with fail
        go_roundg (na - (i + 1))
        case measure => omega
        case rel => exact ⟨i + 1, by go_num, by omega, Nat.le_refl _, HS.out, HBW.out.trans (HBw3.out.mono HBW.out.size)⟩
      · have HNE := Lib.hid (show ∀ w, (binOp .neq 24 (.agg (u8s x.key).toArray) (.agg (u8s y.key).toArray)).run Tryd.prog w = .ok (.bool true) w from fun w => by have h := run_neq_dg w x.key y.key x.hk y.hk; rw [beq_eq_false_iff_ne.2 hq] at h; exact h)
        have hd : keysB a b = false := by unfold keysB; exact take_ne16 (i := i) (by rw [List.length_map]; exact hia) (by rw [List.length_map]; exact hib) (by rw [List.getElem_map, List.getElem_map, ← HXY.out.1, ← HXY.out.2]; exact hq)
        clear hq htk
        go_wp2_with fail
        refine wp_region_class (Behind wr) (by kernel_rfl) (by kernel_rfl) (Below.refl _ _).drew ?_
        iterate 11 (first
          | go_big_quiet_skip
          | (with_reducible refine wpQuiet_loadAll (by with_unfolding_all rfl) 24 _ (by with_unfolding_all rfl) gA (offA + i * 65) (by with_unfolding_all rfl) (u8s x.key) _ (fun w h => rec_key (HAT.out.1 w h)) HUD.out (by with_unfolding_all rfl) (HDG.out _ x.hk) ?_; simp only [Act.put, List.setIfInBounds_toArray, List.set_cons_zero, List.set_cons_succ])
          | (with_reducible refine wpQuiet_loadAll (by with_unfolding_all rfl) 24 _ (by with_unfolding_all rfl) gB (offB + i * 65) (by with_unfolding_all rfl) (u8s y.key) _ (fun w h => rec_key (HAT.out.2 w h)) HUD.out (by with_unfolding_all rfl) (HDG.out _ y.hk) ?_; simp only [Act.put, List.setIfInBounds_toArray, List.set_cons_zero, List.set_cons_succ])
          | (with_reducible refine wpQuiet_bin (by with_unfolding_all rfl) .neq 24 _ _ _ (by with_unfolding_all rfl) (.agg (u8s x.key).toArray) (.agg (u8s y.key).toArray) (.bool true) (by with_unfolding_all rfl) (by with_unfolding_all rfl) (fun w => run_eqGuard_dg w _ _ _ _ _) HNE.out ?_; simp only [Act.put, List.setIfInBounds_toArray, List.set_cons_zero, List.set_cons_succ])
          | (go_big_quiet_step (exact fun _ => rfl)))
        with_reducible refine wpQuiet_nil ?_
        intro w3 hw3
        have HBw3 := Lib.hid (show Below wr.heap.size wr w3 from hw3)
        clear hw3
        go_wp2_with fail
        go_ret
        exact ⟨by first | rfl | (rw [hd]; rfl), HBW.out.trans (HBw3.out.mono HBW.out.size)⟩
    · have hltz : ¬ (i : Int) < (na : Int) := by omega
      have hd : keysB a b = true := by
        unfold keysB
        rw [List.take_of_length_le (by have := HNA.out; omega), List.take_of_length_le (by have := HNB.out; omega)] at htk
        rw [decide_eq_true_eq]
        exact htk
      go_wp2_with fail
      go_ret
      exact ⟨by first | rfl | (rw [hd]; rfl), HBW.out⟩

/-- a letter, as the model has it -/
abbrev letC (A4 : Option Addr) (n4 c4 : Nat) (A5 : Option Addr) (n5 c5 : Nat) (A6 : Option Addr) (n6 c6 : Nat) : List Value := [.slice A4 n4 c4, .slice A5 n5 c5, .slice A6 n6 c6]
set_option maxRecDepth 100000 in
set_option maxHeartbeats 1000000 in
theorem quiet_any (A4 : Option Addr) (n4 c4 : Nat) (A5 : Option Addr) (n5 c5 : Nat) (A6 : Option Addr) (n6 c6 : Nat) (l : Lett) (w : World) (h4 : n4 = l.sums.length) (h5 : n5 = l.items.length) (h6 : n6 = l.asks.length) :
    Calls Tryd.prog 41 #[.agg (letC A4 n4 c4 A5 n5 c5 A6 n6 c6).toArray] w fun e w' => e = .returned (.bool (quietB l)) ∧ Below w.heap.size w w' := by
  have hq : quietB l = decide (n4 = 0 ∧ n5 = 0 ∧ n6 = 0) := by unfold quietB; rw [h4, h5, h6]
  rw [hq]
  have h1 : At (w.alloc (.cells (letC A4 n4 c4 A5 n5 c5 A6 n6 c6).toArray 64)) w.heap.size 64 (letC A4 n4 c4 A5 n5 c5 A6 n6 c6) := At.new w _ _
  have hb : Below w.heap.size w (w.alloc (.cells (letC A4 n4 c4 A5 n5 c5 A6 n6 c6).toArray 64)) := (Below.refl _ _).alloc (Nat.le_refl _) _
  have c0 := h1.cell' (i := 0) rfl
  have c1 := h1.cell' (i := 1) rfl
  have c2 := h1.cell' (i := 2) rfl
  have HB := Lib.hid hb
  clear h4 h5 h6 hq hb h1
  by_cases e4 : n4 = 0
  · subst e4
    by_cases e5 : n5 = 0
    · subst e5
      by_cases e6 : n6 = 0
      · subst e6
        go_enter Tryd.func41, Tryd.ntmps41
        go_wp2_with fail
        go_ret
        exact ⟨rfl, HB.out⟩
      · have z6 : ¬ (n6 : Int) = 0 := by omega
        rw [decide_eq_false (by omega)]
        go_enter Tryd.func41, Tryd.ntmps41
        go_wp2_with fail
        go_ret
        exact ⟨by show Ending.returned (.bool ((n6 : Int) == 0)) = _; rw [beq_eq_false_iff_ne.2 z6], HB.out⟩
    · have z5 : ¬ (n5 : Int) = 0 := by omega
      rw [decide_eq_false (by omega)]
      go_enter Tryd.func41, Tryd.ntmps41
      go_wp2_with fail
      go_ret
      exact ⟨rfl, HB.out⟩
  · have z4 : ¬ (n4 : Int) = 0 := by omega
    rw [decide_eq_false (by omega)]
    go_enter Tryd.func41, Tryd.ntmps41
    go_wp2_with fail
    go_ret
    exact ⟨rfl, HB.out⟩
end Go.Proofs.YtefbllhpibfojaaDoor
