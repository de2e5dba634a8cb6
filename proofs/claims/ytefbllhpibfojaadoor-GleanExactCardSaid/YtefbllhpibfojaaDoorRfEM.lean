/- The reference's Parts of layer 15. -/
import Derived.Test.YtefbllhpibfojaaDoorRfDM
namespace Go.Proofs.YtefbllhpibfojaaDoor
open Go.Proofs Stab Go.Shelf Go.RowKit Go.Lib Go.Sort

set_option maxRecDepth 100000 in
set_option maxHeartbeats 2000000 in
theorem refparts_bad (r : Rng) (hq : goodB r = false ∨ r.depth = 8) (A : Option Addr) (n c : Nat) (w : World) :
    Calls Tryd.prog 25 #[.agg (encG r).toArray, .slice A n c] w fun e w' => e = .returned (.tuple #[.slice none 0 0, .int .i64 1]) ∧ Below w.heap.size w w' := by
  have hr0 : At (w.alloc (.cells (encG r).toArray 26)) w.heap.size 26 (encG r) := At.new w _ _
  have hb0 : Below w.heap.size w (w.alloc (.cells (encG r).toArray 26)) := (Below.refl _ _).alloc (Nat.le_refl _) _
  have HRw0 := Lib.hid hr0
  have HBw0 := Lib.hid hb0
  have HLG := Lib.hid (show ∀ x, (Tryd.prog.info? 26).map (·.size) = some (encG x).length from fun x => by rw [encG_len]; exact infoRng)
  have HGD := Lib.hid (show ∀ W, Calls Tryd.prog 29 #[.agg (encG r).toArray] W fun e w' => e = .returned (.bool (goodB r)) ∧ Below W.heap.size W w' from fun W => refgood_any r W)
  clear hr0 hb0
  go_enter Tryd.func25, Tryd.ntmps25
  go_upto_region 1 with (fail)
  obtain ⟨g2, hg2⟩ : ∃ g, g = w.heap.size := ⟨_, rfl⟩
  rw [← hg2] at HRw0 ⊢
  clear hg2
  generalize w.alloc (.cells (encG r).toArray 26) = w0 at HRw0 HBw0 ⊢
  cases hg : goodB r with
  | false =>
    rw [hg] at HGD
    clear hg hq
    go_wp2_with (first
      | (with_reducible refine wpList_loadAll rfl 26 (.tmp 2) rfl g2 rfl _ _ _ (HRw0.out) Tryd.underlying26 rfl (HLG.out _) ?_)
      | (go_at_call 29; (with_reducible refine Calls.mono (HGD.out _) ?_); rintro e w1 ⟨rfl, hb⟩; have HBw1 := Lib.hid (HBw0.out.trans (hb.mono HBw0.out.size)); have HRw1 := Lib.hid (HRw0.out.below hb HRw0.out.lt); clear hb))
    go_ret2
    exact ⟨rfl, HBw1.out⟩
  | true =>
    rw [hg] at HGD
    have hd8 : r.depth = 8 := hq.resolve_left (by rw [hg]; simp)
    have HD8 := Lib.hid hd8
    clear hg hq hd8
    go_wp2_with (first
      | (with_reducible refine wpList_loadAll rfl 26 (.tmp 2) rfl g2 rfl _ _ _ (HRw0.out) Tryd.underlying26 rfl (HLG.out _) ?_)
      | (go_at_call 29; (with_reducible refine Calls.mono (HGD.out _) ?_); rintro e w1 ⟨rfl, hb⟩; have HBw1 := Lib.hid (HBw0.out.trans (hb.mono HBw0.out.size)); have HRw1 := Lib.hid (HRw0.out.below hb HRw0.out.lt); have c1a := (show w1.cell? ⟨g2, 0, none⟩ = some (.int .i64 8) by have h := HRw1.out.depth; rwa [HD8.out] at h); clear hb))
    go_ret2
    exact ⟨rfl, HBw1.out⟩
set_option maxRecDepth 100000 in
set_option maxHeartbeats 4000000 in
theorem refparts_good (r : Rng) (hq : goodB r = true) (h8 : r.depth ≠ 8) (A : Option Addr) (c n : Nat) (l : List Rec) (w : World) (hln : n = l.length) (hE : EncIn encR 65 w A l) (hn : n ≤ 80) :
    Calls Tryd.prog 25 #[.agg (encG r).toArray, .slice A n c] w fun e w' => ∃ A' c', e = .returned (.tuple #[.slice A' 4 c', .int .i64 0]) ∧ 4 ≤ c' ∧ EncIn encG 35 w' A' (partsR r l) ∧ Below w.heap.size w w' := by
  have hr0 : At (w.alloc (.cells (encG r).toArray 26)) w.heap.size 26 (encG r) := At.new w _ _
  have hb0 : Below w.heap.size w (w.alloc (.cells (encG r).toArray 26)) := (Below.refl _ _).alloc (Nat.le_refl _) _
  have HRw0 := Lib.hid hr0
  have HBw0 := Lib.hid hb0
  have HLG := Lib.hid (show ∀ x, (Tryd.prog.info? 26).map (·.size) = some (encG x).length from fun x => by rw [encG_len]; exact infoRng)
  have HLL := Lib.hid (show ∀ x y, (encG x).length = (encG y).length from fun x y => by rw [encG_len, encG_len])
  have HGD := Lib.hid (show ∀ W, Calls Tryd.prog 29 #[.agg (encG r).toArray] W fun e w' => e = .returned (.bool true) ∧ Below W.heap.size W w' from fun W => by rw [← hq]; exact refgood_any r W)
  have hdb := good_bounds hq h8
  have hd0 := hdb.1
  have hd7 := hdb.2.1
  have hp0 := hdb.2.2.1
  have hp1 := hdb.2.2.2
  have HE := Lib.hid (hE.up hb0)
  have HLN := Lib.hid hln
  have HQ := Lib.hid hq
  have HD8 := Lib.hid h8
  clear hr0 hb0 hE hln hq hdb
  go_enter Tryd.func25, Tryd.ntmps25
  go_upto_region 1 with (fail)
  obtain ⟨g2, hg2⟩ : ∃ g, g = w.heap.size := ⟨_, rfl⟩
  rw [← hg2] at HRw0 ⊢
  clear hg2
  generalize w.alloc (.cells (encG r).toArray 26) = w0 at HRw0 HBw0 HE ⊢
  go_upto_region 3 with (first
    | (with_reducible refine wpList_loadAll rfl 26 (.tmp 2) rfl g2 rfl _ _ _ (HRw0.out) Tryd.underlying26 rfl (HLG.out _) ?_)
    | (go_at_call 29; (with_reducible refine Calls.mono (HGD.out _) ?_); rintro e w1 ⟨rfl, hb⟩; have HBw1 := Lib.hid (HBw0.out.trans (hb.mono HBw0.out.size)); have HRw1 := Lib.hid (HRw0.out.below hb HRw0.out.lt); have c1a := HRw1.out.depth; have HE1 := Lib.hid (HE.out.up hb); clear hb))
  go_wp2_with (first
    | ((with_reducible refine wpList_to (.slice (some ⟨w1.heap.size, 0, none⟩) 0 0) (w1.alloc (.cells #[] 26)) rfl (exec_none rfl Tryd.underlying45 sizeRng w1) ?_)))
  have hO0 := own_none (k := 35) (enc := encG) w1 26 (base := w1.heap.size) (Nat.le_refl _)
  have hb0 : Below w1.heap.size w1 (w1.alloc (.cells #[] 26)) := (Below.refl _ _).alloc (Nat.le_refl _) _
  have HO0 := Lib.hid hO0
  have HB0 := Lib.hid hb0
  clear hO0 hb0 c1a h8
  generalize w1.alloc (.cells #[] 26) = w3 at HO0 HB0 ⊢
  go_loopg [6, 7] 4 (fun gg s6 s7 wr => ∃ (i : Nat) (v : Value), v = s6 ∧ s7 = .int .i64 i ∧ i ≤ 4 ∧ 4 - i ≤ gg ∧ Hid (Own wr w1.heap.size 26 35 v i (((partsR r l).take i).flatMap encG)) ∧ Hid (Below w1.heap.size w1 wr))
  case atStart => exact ⟨0, _, rfl, rfl, by omega, by omega, HO0.out, HB0.out⟩
  case round =>
    obtain ⟨i, v, hv, rfl, hi4, hgg, HO, HBwr⟩ := hrel
    subst hv
    have hbs := HBwr.out.size
    by_cases hlt : i < 4
    · have hltz : (i : Int) < 4 := by omega
      have i0 : (0 : Int) ≤ (i : Int) := by omega
      have HRwr := Lib.hid (HRw1.out.below HBwr.out HRw1.out.lt)
      have HKwr := Lib.hid (show Below wr.heap.size wr wr from Below.refl _ _)
      obtain ⟨h1, h2, h3, h4⟩ := sub_eq HQ.out HD8.out hlt
      obtain ⟨z, hz⟩ : ∃ z, z = ofR (sub r i) l := ⟨_, rfl⟩
      have hof := refof_good (sub r i) h4 A c n l wr HLN.out (HE1.out.up HBwr.out) hn z hz
      rw [h1, h2] at hof
      have HOF := Lib.hid hof
      have HZ := Lib.hid hz
      have c7a := HRwr.out.depth
      have c7b := HRwr.out.pref
      clear h1 h2 h3 h4 hz hof
      go_wp2_with (first
        | (go_at_call 23; (with_reducible refine Calls.mono (HOF.out) ?_); rintro e u1 ⟨rfl, hb⟩; have HBu1 := Lib.hid (HBwr.out.trans (hb.mono HBwr.out.size)); have HKu1 := Lib.hid (HKwr.out.trans (hb.mono HKwr.out.size)); clear hb c7a c7b)
        | ((with_reducible refine wpList_allocZ (o := ⟨some 8, _, _, _, _, _⟩) 26 (encG default) rfl rfl zeroRng ?_); intro g8 u2 hg hat hb; have HAT8 := Lib.hid hat; have HBA8 := Lib.hid hb; have HGE8 := Lib.hid hg; clear hat hb hg)
        | ((with_reducible refine wpList_storeAll rfl 26 (.tmp 8) (.tmp 34) rfl g8 rfl _ _ (encG z) HAT8.out rfl (HLL.out _ _) (HLG.out _) (encG_one _) ?_); intro u3 hat hg hs; have hbb := Below.ofGrown HBA8.out hg HBA8.out.size (Nat.le_of_eq HGE8.out.symm); have HZ8u3 := Lib.hid hat; have HBu3 := Lib.hid (HBu1.out.trans (hbb.mono HBu1.out.size)); have HKu3 := Lib.hid (HKu1.out.trans (hbb.mono HKu1.out.size)); clear hat hg hs hbb)
        | (with_reducible refine wpList_loadAll rfl 26 (.tmp 8) rfl g8 rfl _ _ _ (HZ8u3.out) Tryd.underlying26 rfl (HLG.out _) ?_)
        | ((with_reducible refine wpList_one rfl 45 26 35 z (.tmp 37) rfl (by with_unfolding_all rfl) Tryd.underlying45 info2Rng (by decide) (by decide) (encG_len z) ?_); intro g38 u4 hg hb hE; have HEO := Lib.hid hE; have HBO := Lib.hid (HKu3.out.trans (hb.mono HKu3.out.size)); clear hg hb hE)
        | (at_builtin; refine wpList_append_enc (enc := encG) (k := 35) rfl rfl (.tmp 36) (.tmp 38) 45 26 56 rfl _ Tryd.underlying45 info3Rng rfl (by decide) w1.heap.size v i ((partsR r l).take i) [z] rfl (HO.out.below HBO.out) (fun _ _ => encG_len _) (fun _ _ => encG_one _) (some ⟨g38, 0, none⟩) 1 1 rfl rfl HEO.out (by unfold maxLen; simp; omega) (by simp; omega) (Nat.le_trans hbs HBO.out.size) ?_; intro v7 u5 hO7 hg7 _; have hbx := own_below2 (HO.out.below HBO.out) (Below.trans HBwr.out (HBO.out.mono HBwr.out.size)) (Nat.le_refl _) (Nat.le_trans hbs HBO.out.size) hg7; have HOv7 := Lib.hid hO7; have HBv7 := Lib.hid hbx; clear hO7 hg7 hbx))
      go_roundg (4 - (i + 1))
      case measure => omega
      case rel =>
        refine ⟨i + 1, v7, rfl, by go_num, by omega, Nat.le_refl _, ?_, HBv7.out⟩
        show Own _ _ _ _ _ _ _
        rw [partsR_take r l i hlt, ← HZ.out]
        exact HOv7.out
    · obtain rfl : i = 4 := by omega
      have hlen : (partsR r l).length = 4 := by simp [partsR]
      have hO := HO.out
      rw [List.take_of_length_le (by omega)] at hO
      obtain ⟨A6, c6, rfl, hc6, hE6⟩ := hO.rows hlen.symm (fun x _ => encG_len x)
      have HE6 := Lib.hid hE6
      clear hO hE6 hlen
      go_wp2_with fail
      go_ret2
      exact ⟨A6, c6, rfl, hc6, HE6.out, HBw1.out.trans (HBwr.out.mono HBw1.out.size)⟩
end Go.Proofs.YtefbllhpibfojaaDoor
