/- Layer 16: slices.Index and Contains at records, ContainsFunc at ranges; Fill's closures. -/
import Derived.Test.YtefbllhpibfojaaDoorGlePM
namespace Go.Proofs.YtefbllhpibfojaaDoor
open Go.Proofs Stab Go.Shelf Go.RowKit Go.Lib Go.Sort

theorem idx_any {α : Type} (p : α → Bool) (l : List α) : (idxP p l = -1 ∧ l.any p = false) ∨ ∃ k : Nat, k < l.length ∧ idxP p l = (k : Int) ∧ l.any p = true := by
  rcases found_idxP p l with ⟨h1, h2⟩ | ⟨k, hk, h1, h2, _⟩
  · exact .inl ⟨h1, by rw [List.any_eq_false]; intro x hx; rw [h2 x hx]; simp⟩
  · exact .inr ⟨k, hk, h1, by rw [List.any_eq_true]; exact ⟨l[k], List.getElem_mem hk, h2⟩⟩
set_option maxRecDepth 100000 in
set_option maxHeartbeats 2000000 in
theorem index_any (A : Option Addr) (c n : Nat) (l : List Rec) (x : Rec) (w : World) (hln : n = l.length) (hE : EncIn encR 65 w A l) (hn : n < 9223372036854775807) :
    Calls Tryd.prog 90 #[.slice A n c, .agg (encR x).toArray] w fun e w' => e = .returned (.int .i64 (idxP (fun y => decide (x = y)) l)) ∧ Below w.heap.size w w' := by
  have h0 := At.new w 38 (encR x)
  have hb0 : Below w.heap.size w (w.alloc (.cells (encR x).toArray 38)) := (Below.refl _ _).alloc (Nat.le_refl _) _
  have HX0 := Lib.hid h0
  have HB0 := Lib.hid hb0
  have HE := Lib.hid (hE.up hb0)
  have HN := Lib.hid hln
  have HLR := Lib.hid (show ∀ x, (Tryd.prog.info? 38).map (·.size) = some (encR x).length from fun x => by rw [encR_len]; exact infoRec)
  clear h0 hb0 hE hln
  go_enter Tryd.func90, Tryd.ntmps90
  go_upto_region 1 with (fail)
  obtain ⟨g3, hg3⟩ : ∃ g, g = w.heap.size := ⟨_, rfl⟩
  rw [← hg3] at HX0 ⊢
  clear hg3
  generalize w.alloc (.cells (encR x).toArray 38) = w0 at HX0 HB0 HE ⊢
  go_wp2_with fail
  go_loopg [8] n (fun gg s8 wr => ∃ k : Nat, s8 = .int .i64 k ∧ k ≤ n ∧ n - k ≤ gg ∧ Hid (∀ y ∈ l.take k, decide (x = y) = false) ∧ Hid (Below w0.heap.size w0 wr))
  case atStart => exact ⟨0, rfl, Nat.zero_le _, by omega, (show Hid _ from by intro y hy; simp at hy), Below.refl _ _⟩
  case round =>
    obtain ⟨k, rfl, hk, hgg, HA, HBW⟩ := hrel
    by_cases hlt : k < n
    · have hltz : (k : Int) < (n : Int) := by omega
      have i0 : (0 : Int) ≤ (k : Int) := by omega
      have hkl : k < l.length := by have := HN.out; omega
      obtain ⟨gA, off, hAA, hgA, hrg⟩ := (HE.out.up HBW.out).at hkl
      obtain ⟨y, hy⟩ : ∃ y, y = l[k] := ⟨_, rfl⟩
      rw [← hy] at hrg
      have HRA := Lib.hid (show ∀ W, Behind wr W → W.rangeAt gA (off + k * 65) (encR y) from fun W h => range_below' hrg h hgA)
      have HRX := Lib.hid (show ∀ W, Behind wr W → W.rangeAt g3 0 (encR x) from fun W h => ((HX0.out.below HBW.out HX0.out.lt).below h (HX0.out.below HBW.out HX0.out.lt).lt).all)
      have HY := Lib.hid hy
      clear hrg hy hgA
      subst hAA
      by_cases hq : x = y
      · have HQ := Lib.hid (show ∀ w, (binOp .eql 38 (.agg (encR x).toArray) (.agg (encR y).toArray)).run Tryd.prog w = .ok (.bool true) w from fun w => by have h := run_eql_rec w x y; rw [decide_eq_true hq] at h; exact h)
        have HXY := Lib.hid hq
        clear hq
        go_wp2_with fail
        refine wp_region_class (Behind wr) (by kernel_rfl) (by kernel_rfl) (Below.refl _ _).drew ?_
        iterate 6 (first
          | go_big_quiet_skip
          | ((with_reducible refine wpQuiet_loadAll (by with_unfolding_all rfl) 38 _ (by with_unfolding_all rfl) gA (off + k * 65) (by with_unfolding_all rfl) (encR y) _ (fun w h => HRA.out w h) Tryd.underlying38 (by with_unfolding_all rfl) (HLR.out y) ?_); simp only [Act.put, List.setIfInBounds_toArray, List.set_cons_zero, List.set_cons_succ])
          | ((with_reducible refine wpQuiet_loadAll (by with_unfolding_all rfl) 38 _ (by with_unfolding_all rfl) g3 (0) (by with_unfolding_all rfl) (encR x) _ (fun w h => HRX.out w h) Tryd.underlying38 (by with_unfolding_all rfl) (HLR.out x) ?_); simp only [Act.put, List.setIfInBounds_toArray, List.set_cons_zero, List.set_cons_succ])
          | ((with_reducible refine wpQuiet_bin (by with_unfolding_all rfl) .eql 38 _ _ _ (by with_unfolding_all rfl) (.agg (encR x).toArray) (.agg (encR y).toArray) (.bool _) (by with_unfolding_all rfl) (by with_unfolding_all rfl) (fun w => run_eqGuard_rec w _ _ _ _ _) HQ.out ?_); simp only [Act.put, List.setIfInBounds_toArray, List.set_cons_zero, List.set_cons_succ])
          | (go_big_quiet_step (exact fun _ => rfl)))
        with_reducible refine wpQuiet_nil ?_
        intro w3 hw3
        have HBw3 := Lib.hid (show Below wr.heap.size wr w3 from hw3)
        clear hw3
        go_wp2_with fail
        go_ret
        exact ⟨ret_int (Found.unique (.inr ⟨k, hkl, rfl, by rw [← HY.out]; exact decide_eq_true HXY.out, fun j hj => HA.out _ (List.mem_take_iff_getElem.2 ⟨j, by omega, rfl⟩)⟩) (found_idxP _ l)), HB0.out.trans ((HBW.out.trans (HBw3.out.mono HBW.out.size)).mono HB0.out.size)⟩
      · have HQ := Lib.hid (show ∀ w, (binOp .eql 38 (.agg (encR x).toArray) (.agg (encR y).toArray)).run Tryd.prog w = .ok (.bool false) w from fun w => by have h := run_eql_rec w x y; rw [decide_eq_false hq] at h; exact h)
        have HXY := Lib.hid hq
        clear hq
        go_wp2_with fail
        refine wp_region_class (Behind wr) (by kernel_rfl) (by kernel_rfl) (Below.refl _ _).drew ?_
        iterate 6 (first
          | go_big_quiet_skip
          | ((with_reducible refine wpQuiet_loadAll (by with_unfolding_all rfl) 38 _ (by with_unfolding_all rfl) gA (off + k * 65) (by with_unfolding_all rfl) (encR y) _ (fun w h => HRA.out w h) Tryd.underlying38 (by with_unfolding_all rfl) (HLR.out y) ?_); simp only [Act.put, List.setIfInBounds_toArray, List.set_cons_zero, List.set_cons_succ])
          | ((with_reducible refine wpQuiet_loadAll (by with_unfolding_all rfl) 38 _ (by with_unfolding_all rfl) g3 (0) (by with_unfolding_all rfl) (encR x) _ (fun w h => HRX.out w h) Tryd.underlying38 (by with_unfolding_all rfl) (HLR.out x) ?_); simp only [Act.put, List.setIfInBounds_toArray, List.set_cons_zero, List.set_cons_succ])
          | ((with_reducible refine wpQuiet_bin (by with_unfolding_all rfl) .eql 38 _ _ _ (by with_unfolding_all rfl) (.agg (encR x).toArray) (.agg (encR y).toArray) (.bool _) (by with_unfolding_all rfl) (by with_unfolding_all rfl) (fun w => run_eqGuard_rec w _ _ _ _ _) HQ.out ?_); simp only [Act.put, List.setIfInBounds_toArray, List.set_cons_zero, List.set_cons_succ])
          | (go_big_quiet_step (exact fun _ => rfl)))
        with_reducible refine wpQuiet_nil ?_
        intro w3 hw3
        have HBw3 := Lib.hid (show Below wr.heap.size wr w3 from hw3)
        clear hw3
        go_wp2_with fail
        go_roundg (n - (k + 1))
        case measure => omega
        case rel =>
          refine ⟨k + 1, by go_num, by omega, Nat.le_refl _, (show Hid _ from ?_), HBW.out.trans (HBw3.out.mono HBW.out.size)⟩
          intro u hu
          rw [List.take_succ_eq_append_getElem hkl, List.mem_append] at hu
          rcases hu with hu | hu
          · exact HA.out u hu
          · rw [List.mem_singleton.1 hu, ← HY.out]
            exact decide_eq_false HXY.out
    · have hkn : k = n := by omega
      have hltz : ¬ (k : Int) < (n : Int) := by omega
      have hall : ∀ y ∈ l, decide (x = y) = false := by
        have h := HA.out
        rw [List.take_of_length_le (by have := HN.out; omega)] at h
        exact h
      have HALL := Lib.hid hall
      clear hall hkn
      go_wp2_with fail
      go_ret
      exact ⟨ret_int (Found.unique (.inl ⟨rfl, HALL.out⟩) (found_idxP _ l)), HB0.out.trans (HBW.out.mono HB0.out.size)⟩
set_option maxRecDepth 100000 in
set_option maxHeartbeats 2000000 in
theorem contains_any (A : Option Addr) (c n : Nat) (l : List Rec) (x : Rec) (w : World) (hln : n = l.length) (hE : EncIn encR 65 w A l) (hn : n < 9223372036854775807) :
    Calls Tryd.prog 74 #[.slice A n c, .agg (encR x).toArray] w fun e w' => e = .returned (.bool (l.any fun y => decide (x = y))) ∧ Below w.heap.size w w' := by
  have h0 := At.new w 38 (encR x)
  have hb0 : Below w.heap.size w (w.alloc (.cells (encR x).toArray 38)) := (Below.refl _ _).alloc (Nat.le_refl _) _
  have HX0 := Lib.hid h0
  have HB0 := Lib.hid hb0
  have hidx := index_any A c n l x (w.alloc (.cells (encR x).toArray 38)) hln (hE.up hb0) hn
  have HLR := Lib.hid (show ∀ x, (Tryd.prog.info? 38).map (·.size) = some (encR x).length from fun x => by rw [encR_len]; exact infoRec)
  have HIDX := Lib.hid hidx
  have hcs := idx_any (fun y => decide (x = y)) l
  clear h0 hb0 hE hln hidx
  go_enter Tryd.func74, Tryd.ntmps74
  go_upto_region 1 with (fail)
  obtain ⟨g3, hg3⟩ : ∃ g, g = w.heap.size := ⟨_, rfl⟩
  rw [← hg3] at HX0 ⊢
  clear hg3
  generalize w.alloc (.cells (encR x).toArray 38) = w0 at HX0 HB0 HIDX ⊢
  rcases hcs with ⟨h1, h2⟩ | ⟨k, _, h1, h2⟩
  · rw [h1] at HIDX
    have HR := Lib.hid h2
    clear h1 h2
    go_wp2_with (first
      | (with_reducible refine wpList_loadAll rfl 38 (.tmp 3) rfl g3 rfl _ _ _ (HX0.out) Tryd.underlying38 rfl (HLR.out _) ?_)
      | (go_at_call 90; (with_reducible refine Calls.mono (HIDX.out) ?_); rintro e w1 ⟨rfl, hb⟩; have HB1 := Lib.hid (HB0.out.trans (hb.mono HB0.out.size)); clear hb))
    go_ret
    exact ⟨by rw [HR.out]; rfl, HB1.out⟩
  · rw [h1] at HIDX
    have HR := Lib.hid h2
    have i0 : (0 : Int) ≤ (k : Int) := by omega
    clear h1 h2
    go_wp2_with (first
      | (with_reducible refine wpList_loadAll rfl 38 (.tmp 3) rfl g3 rfl _ _ _ (HX0.out) Tryd.underlying38 rfl (HLR.out _) ?_)
      | (go_at_call 90; (with_reducible refine Calls.mono (HIDX.out) ?_); rintro e w1 ⟨rfl, hb⟩; have HB1 := Lib.hid (HB0.out.trans (hb.mono HB0.out.size)); clear hb))
    go_ret
    exact ⟨by rw [HR.out]; rfl, HB1.out⟩
theorem egF1 : ∀ args w, (callFunc 69 args).run Tryd.prog w = .ok (.enter 69 args) w := enters_of Tryd.func69 (by kernel_rfl) rfl
theorem egF2 : ∀ args w, (callFunc 72 args).run Tryd.prog w = .ok (.enter 72 args) w := enters_of Tryd.func72 (by kernel_rfl) rfl
theorem egF21 : ∀ args w, (callFunc 73 args).run Tryd.prog w = .ok (.enter 73 args) w := enters_of Tryd.func73 (by kernel_rfl) rfl
set_option maxRecDepth 100000 in
theorem fill1_any (r : Rng) (w : World) : Calls Tryd.prog 69 #[.agg (encG r).toArray] w fun e w' => e = .returned (.bool (!goodB r)) ∧ Below w.heap.size w w' := by
  have h0 := At.new w 26 (encG r)
  have hb0 : Below w.heap.size w (w.alloc (.cells (encG r).toArray 26)) := (Below.refl _ _).alloc (Nat.le_refl _) _
  have HX0 := Lib.hid h0
  have HB0 := Lib.hid hb0
  have HLG := Lib.hid (show ∀ x, (Tryd.prog.info? 26).map (·.size) = some (encG x).length from fun x => by rw [encG_len]; exact infoRng)
  have HGD := Lib.hid (show ∀ W, Calls Tryd.prog 14 #[.agg (encG r).toArray] W fun e w' => e = .returned (.bool (goodB r)) ∧ Below W.heap.size W w' from fun W => good_any r W)
  clear h0 hb0
  go_enter Tryd.func69, Tryd.ntmps69
  go_upto_region 1 with (fail)
  obtain ⟨g1, hg1⟩ : ∃ g, g = w.heap.size := ⟨_, rfl⟩
  rw [← hg1] at HX0 ⊢
  clear hg1
  generalize w.alloc (.cells (encG r).toArray 26) = w0 at HX0 HB0 ⊢
  go_wp2_with (first
    | (with_reducible refine wpList_loadAll rfl 26 (.tmp 1) rfl g1 rfl _ _ _ (HX0.out) Tryd.underlying26 rfl (HLG.out _) ?_)
    | (go_at_call 14; (with_reducible refine Calls.mono (HGD.out _) ?_); rintro e w1 ⟨rfl, hb⟩; have HB1 := Lib.hid (HB0.out.trans (hb.mono HB0.out.size)); clear hb))
  go_ret
  exact ⟨rfl, HB1.out⟩
set_option maxRecDepth 100000 in
set_option maxHeartbeats 1000000 in
theorem fill21_any (x : Rec) (g : Nat) (r : Rng) (w : World) (hx : At w g 38 (encR x)) : Calls Tryd.prog 73 #[.agg (encG r).toArray, .pointer (some ⟨g, 0, none⟩)] w fun e w' => e = .returned (.bool (inB r x.key)) ∧ Below w.heap.size w w' := by
  have h0 := At.new w 26 (encG r)
  have hb0 : Below w.heap.size w (w.alloc (.cells (encG r).toArray 26)) := (Below.refl _ _).alloc (Nat.le_refl _) _
  have HX0 := Lib.hid h0
  have HB0 := Lib.hid hb0
  have HX := Lib.hid (hx.alloc (.cells (encG r).toArray 26))
  have HUD := Lib.hid Tryd.underlying24
  have HDG := Lib.hid (show ∀ l : List UInt8, l.length = 32 → (Tryd.prog.info? 24).map (·.size) = some (u8s l).length from fun l hl => by rw [u8s_length, hl]; exact infoDg)
  have HLG := Lib.hid (show ∀ x, (Tryd.prog.info? 26).map (·.size) = some (encG x).length from fun x => by rw [encG_len]; exact infoRng)
  have HIN := Lib.hid (show ∀ W, Calls Tryd.prog 22 #[.agg (encG r).toArray, .agg (u8s x.key).toArray] W fun e w' => e = .returned (.bool (inB r x.key)) ∧ Below W.heap.size W w' from fun W => in_any r x.key x.hk W)
  clear h0 hb0 hx
  go_enter Tryd.func73, Tryd.ntmps73
  go_upto_region 1 with (fail)
  obtain ⟨g2, hg2⟩ : ∃ g, g = w.heap.size := ⟨_, rfl⟩
  rw [← hg2] at HX0 ⊢
  clear hg2
  generalize w.alloc (.cells (encG r).toArray 26) = w0 at HX0 HB0 HX ⊢
  go_wp2_with (first
    | (with_reducible refine wpList_loadAll rfl 26 (.tmp 2) rfl g2 rfl _ _ _ (HX0.out) Tryd.underlying26 rfl (HLG.out _) ?_)
    | (with_reducible refine wpList_loadW (by with_unfolding_all rfl) 24 (.tmp 5) rfl g 0 (by with_unfolding_all rfl) (u8s x.key) _ (HX.out.key) HUD.out (by with_unfolding_all rfl) (HDG.out _ x.hk) ?_)
    | (go_at_call 22; (with_reducible refine Calls.mono (HIN.out _) ?_); rintro e w1 ⟨rfl, hb⟩; have HB1 := Lib.hid (HB0.out.trans (hb.mono HB0.out.size)); clear hb))
  go_ret
  exact ⟨rfl, HB1.out⟩
set_option maxRecDepth 100000 in
set_option maxHeartbeats 1000000 in
theorem containsFn_any (x : Rec) (g : Nat) (A : Option Addr) (c n : Nat) (l : List Rng) (w : World) (hln : n = l.length) (hE : EncIn encG 35 w A l) (hn : n < 9223372036854775807) (hx : At w g 38 (encR x)) :
    Calls Tryd.prog 75 #[.slice A n c, .func (.func 73) #[] #[.pointer (some ⟨g, 0, none⟩)]] w fun e w' => e = .returned (.bool (l.any fun r => inB r x.key)) ∧ Below w.heap.size w w' := by
  have hidx := idxRng_any 35 aggRng sizeRng encG encG_len infoRng (fun r => inB r x.key) 73 #[.pointer (some ⟨g, 0, none⟩)] egF21 A c l w (fun W => Below w.heap.size w W) (fun W hW => hE.up hW) (fun W r hW => (fill21_any x g r W (hx.below hW hx.lt)).mono fun e w' ⟨he, hb⟩ => ⟨he, hW.trans (hb.mono hW.size)⟩) (Below.refl _ _) (by omega)
  rw [← hln] at hidx
  have HIDX := Lib.hid hidx
  have hcs := idx_any (fun r => inB r x.key) l
  clear hidx hE hln hx
  go_enter Tryd.func75, Tryd.ntmps75
  rcases hcs with ⟨h1, h2⟩ | ⟨k, _, h1, h2⟩
  · rw [h1] at HIDX
    have HR := Lib.hid h2
    clear h1 h2
    go_wp2_with (first
      | (go_at_call 89; (with_reducible refine Calls.mono (HIDX.out) ?_); rintro e w1 ⟨rfl, hb⟩; have HB1 := Lib.hid hb; clear hb))
    go_ret
    exact ⟨by rw [HR.out]; rfl, HB1.out⟩
  · rw [h1] at HIDX
    have HR := Lib.hid h2
    have i0 : (0 : Int) ≤ (k : Int) := by omega
    clear h1 h2
    go_wp2_with (first
      | (go_at_call 89; (with_reducible refine Calls.mono (HIDX.out) ?_); rintro e w1 ⟨rfl, hb⟩; have HB1 := Lib.hid hb; clear hb))
    go_ret
    exact ⟨by rw [HR.out]; rfl, HB1.out⟩
/-- what Fill leaves out -/
def outF (th : List Rec) (good : List Rng) (x : Rec) : Bool := th.any (fun y => decide (x = y)) || !good.any fun r => inB r x.key
set_option maxRecDepth 100000 in
set_option maxHeartbeats 2000000 in
theorem fill2_any (x : Rec) (g4 g8 : Nat) (A : Option Addr) (c n : Nat) (th : List Rec) (B : Option Addr) (cb m : Nat) (good : List Rng) (w : World) (hln : n = th.length) (hlm : m = good.length) (hn : n < 9223372036854775807) (hm : m < 9223372036854775807)
    (h4 : At w g4 22 [.slice A n c]) (h8 : At w g8 45 [.slice B m cb]) (hE : EncIn encR 65 w A th) (hF : EncIn encG 35 w B good) :
    Calls Tryd.prog 72 #[.agg (encR x).toArray, .pointer (some ⟨g4, 0, none⟩), .pointer (some ⟨g8, 0, none⟩)] w fun e w' => e = .returned (.bool (outF th good x)) ∧ Below w.heap.size w w' := by
  have h0 := At.new w 38 (encR x)
  have hb0 : Below w.heap.size w (w.alloc (.cells (encR x).toArray 38)) := (Below.refl _ _).alloc (Nat.le_refl _) _
  have HX0 := Lib.hid h0
  have HB0 := Lib.hid hb0
  have H4 := Lib.hid (h4.below hb0 h4.lt)
  have H8 := Lib.hid (h8.below hb0 h8.lt)
  have HE := Lib.hid (hE.up hb0)
  have HF := Lib.hid (hF.up hb0)
  have HLR := Lib.hid (show ∀ x, (Tryd.prog.info? 38).map (·.size) = some (encR x).length from fun x => by rw [encR_len]; exact infoRec)
  have HLN := Lib.hid hln
  have HLM := Lib.hid hlm
  clear h0 hb0 h4 h8 hE hF hln hlm
  go_enter Tryd.func72, Tryd.ntmps72
  go_upto_region 1 with (fail)
  obtain ⟨g3, hg3⟩ : ∃ g, g = w.heap.size := ⟨_, rfl⟩
  rw [← hg3] at HX0 ⊢
  clear hg3
  generalize w.alloc (.cells (encR x).toArray 38) = w0 at HX0 HB0 H4 H8 HE HF ⊢
  have HCN := Lib.hid (contains_any A c n th x w0 HLN.out HE.out hn)
  have HCF := Lib.hid (show ∀ W, Below w0.heap.size w0 W → Calls Tryd.prog 75 #[.slice B m cb, .func (.func 73) #[] #[.pointer (some ⟨g3, 0, none⟩)]] W fun e w' => e = .returned (.bool (good.any fun r => inB r x.key)) ∧ Below W.heap.size W w' from fun W hW => containsFn_any x g3 B cb m good W HLM.out (HF.out.up hW) hm (HX0.out.below hW HX0.out.lt))
  have c4 := H4.out.cell' (i := 0) rfl
  have HO := Lib.hid (show outF th good x = (th.any (fun y => decide (x = y)) || !good.any fun r => inB r x.key) from rfl)
  cases ha : th.any (fun y => decide (x = y)) with
  | true =>
    rw [ha] at HCN HO
    clear ha
    go_wp2_with (first
      | (with_reducible refine wpList_loadAll rfl 38 (.tmp 3) rfl g3 rfl _ _ _ (HX0.out) Tryd.underlying38 rfl (HLR.out _) ?_)
      | (go_at_call 74; (with_reducible refine Calls.mono (HCN.out) ?_); rintro e w1 ⟨rfl, hb⟩; have HB1 := Lib.hid (HB0.out.trans (hb.mono HB0.out.size)); clear hb))
    go_ret
    exact ⟨by rw [HO.out]; rfl, HB1.out⟩
  | false =>
    rw [ha] at HCN HO
    clear ha
    obtain ⟨bg, hbg⟩ : ∃ b, b = good.any fun r => inB r x.key := ⟨_, rfl⟩
    rw [← hbg] at HCF HO
    clear hbg
    go_wp2_with (first
      | (with_reducible refine wpList_loadAll rfl 38 (.tmp 3) rfl g3 rfl _ _ _ (HX0.out) Tryd.underlying38 rfl (HLR.out _) ?_)
      | (go_at_call 74; (with_reducible refine Calls.mono (HCN.out) ?_); rintro e w1 ⟨rfl, hb⟩; have HB1 := Lib.hid (HB0.out.trans (hb.mono HB0.out.size)); have HBq := Lib.hid hb; have c8 := (H8.out.below hb H8.out.lt).cell' (i := 0) rfl; clear hb)
      | (go_at_call 75; (with_reducible refine Calls.mono (HCF.out _ HBq.out) ?_); rintro e w2 ⟨rfl, hb⟩; have HB2 := Lib.hid (HB1.out.trans (hb.mono HB1.out.size)); clear hb))
    go_ret
    exact ⟨by rw [HO.out]; rfl, HB2.out⟩
end Go.Proofs.YtefbllhpibfojaaDoor
