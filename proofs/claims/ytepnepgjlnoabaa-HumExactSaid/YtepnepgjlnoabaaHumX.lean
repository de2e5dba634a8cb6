/- Layer 11: HumExact: what is told and what is left is what the reference says. -/
import Derived.Test.YtepnepgjlnoabaaHumV
import Derived.Test.YtepnepgjlnoabaaHumX3
import Derived.Test.YtepnepgjlnoabaaHumX4
namespace Go.Proofs.Ytepnepgjlnoabaa
open Go.Proofs Stab Go.Shelf Go.RowKit Go.Lib Go.Sort Go.Maps

theorem zero_none {t : Int} {f : Hm.St} (h : Hm.Sane t f) : f 0 = none := by
  cases hf : f 0 with
  | none => rfl
  | some r =>
    have := Hm.node_range h hf
    omega
theorem RefHum.lt {w : World} {u : Nat} {t : Int} {f : Hm.St} (h : RefHum w u t f) : u < w.heap.size := by
  obtain ⟨R, h1, _⟩ := h
  exact h1.lt
def ActS (q : Nat) (n : Int) (w : World) : Prop := w.cell? ⟨q, 2, none⟩ = some (.int .i64 n)
theorem ActS.out {q : Nat} {n : Int} {w : World} (h : ActS q n w) : w.cell? ⟨q, 2, none⟩ = some (.int .i64 n) := h
theorem HumSt.not_u {H : Type} {w : World} {A : Nat → Prop} {p b N u : Nat} {t : Int} {f : Hm.St} (h : HumSt H w A p b N t f) (hA : A u) : some u ≠ some b := fun e => by
  injection e with e
  subst e
  exact h.nb hA
set_option maxRecDepth 100000 in
set_option maxHeartbeats 4000000 in
theorem exact_walk (n : Int) (A : Option Addr) (c : Nat) (xs : List ActM) (w : World) (hx : ActsIn w A xs) (hlen : xs.length ≤ maxLen) :
    Calls Try.prog 3 #[.int .i64 n, .slice A xs.length c] w fun e w' => e = .returned (.bool true) ∧ Below w.heap.size w w' := by
  have HX := Lib.hid hx
  have hlen' : xs.length ≤ 9223372036854775807 := hlen
  clear hx hlen
  go_enter Try.func3, Try.ntmps3
  go_wp2_with fail
  refine (awake_any _).mono ?_
  rintro e w1 ⟨rfl, hb1⟩
  have HB1 := Lib.hid hb1
  clear hb1
  go_wp2_with fail
  refine (hum_new (H := Unit) n _).mono ?_
  rintro e w2 ⟨p, b, rfl, hV, hb2, hp, hbb⟩
  obtain ⟨T, hT⟩ : ∃ T, T = min (max n 1) 100 := ⟨_, rfl⟩
  rw [← hT] at hV
  have hT1 : 1 ≤ T ∧ T ≤ 100 := by omega
  have hs1 := HB1.out.size
  have hS2 : HumSt Unit w2 (fun i => i < w.heap.size) p b 0 T (fun _ => none) := ⟨⟨_, hV, rfl, fun x g r h => nomatch h⟩, by show ¬ p < _; omega, by show ¬ b < _; omega, fun i (hi : i < w.heap.size) => by have := hb2.size; omega⟩
  have HB2 := Lib.hid (HB1.out.trans (hb2.mono hs1))
  have HS2 := Lib.hid hS2
  have HT := Lib.hid hT1
  have HTe := Lib.hid hT
  have HBB := Lib.hid (show w.heap.size ≤ b by omega)
  clear hV hb2 hS2 hT hT1 hp hbb hs1
  go_wp2_with fail
  refine (refnew_any n _).mono ?_
  rintro e w3 ⟨u, rfl, hR3, hb3, hu3⟩
  rw [← HTe.out] at hR3
  have hS3 : HumSt Unit w3 (fun i => i < w.heap.size ∨ i = u) p b 0 T (fun _ => none) := HS2.out.more hb3 (fun i hi => by
    rcases hi with hi | hi
    · exact .inl hi
    · exact .inr (by have := hR3.lt; omega))
  have HB3 := Lib.hid (HB2.out.trans (hb3.mono HB2.out.size))
  have HS3 := Lib.hid hS3
  have HR3 := Lib.hid hR3
  have HU := Lib.hid (show w.heap.size ≤ u by have := HB2.out.size; omega)
  clear hS3 hR3 hb3 hu3 HS2 HB2
  go_wp2_with fail
  go_loopw [7] (fun i7 wr => ∃ (k : Nat) (f : Hm.St), k ≤ xs.length ∧ k ≤ 100 ∧ i7 = .int .i64 k ∧ HumSt Unit wr (fun i => i < w.heap.size ∨ i = u) p b (40 * k) T f ∧ RefHum wr u T f ∧ Below w.heap.size w wr) (fun i7 _ => 100 - (RowKit.intOf i7).toNat)
  case atStart => exact ⟨0, _, by omega, by omega, rfl, HS3.out, HR3.out, HB3.out⟩
  case round =>
    obtain ⟨k, f, hk, hk100, rfl, hS, hR, hB⟩ := hrel
    clear HS3 HR3 HB3
    have HS := Lib.hid hS
    have HR := Lib.hid hR
    have HB := Lib.hid hB
    clear hS hR hB
    by_cases hlt : k < xs.length ∧ k < 100
    · obtain ⟨hlt1, hlt2⟩ := hlt
      obtain ⟨g, off, rfl, hgl, c0, c1, c2, hM, hW⟩ := HX.out.cells HB.out hlt1
      have hMw := HX.out.mems hlt1
      obtain ⟨⟨kd, xA, xc, xl, xn⟩, hxk⟩ : ∃ x, x = xs[k] := ⟨_, rfl⟩
      rw [← hxk] at c0 c1 c2 hM hW hMw
      simp only at c0 c1 c2 hM hMw
      have HM := Lib.hid hM
      have HMw := Lib.hid hMw
      have i0 : (0 : Int) ≤ (k : Int) := by omega
      have i1 : (k : Int) < (xs.length : Int) := by omega
      have i2 : (k : Int) < 100 := by omega
      have hbn : (-9223372036854775808 ≤ xn ∧ xn ≤ 9223372036854775807) := hW.2.1
      have hxl : (xl.length : Int) ≤ 9223372036854775807 := by have h1 : xl.length ≤ xc := hW.2.2.1; have h2 : xc ≤ maxLen := hW.2.2.2; unfold maxLen at h2; omega
      obtain ⟨w5, hw5⟩ : ∃ w5, w5 = wr.alloc (.cells #[.int .i64 kd, .slice xA xl.length xc, .int .i64 xn] 30) := ⟨_, rfl⟩
      have HA5 := Lib.hid (show At w5 wr.heap.size 30 (actC ⟨kd, xA, xc, xl, xn⟩) by rw [hw5]; exact actAt wr ⟨kd, xA, xc, xl, xn⟩)
      have HB5 := Lib.hid (show Below wr.heap.size wr w5 by rw [hw5]; exact (Below.refl _ _).alloc (Nat.le_refl _) _)
      clear hM hW hxk hMw
      by_cases h40 : 40 < xl.length
      · have h40z : (40 : Int) < (xl.length : Int) := by omega
        have HWF := Lib.hid (HB.out.trans (HB5.out.mono HB.out.size))
        have HW5 := Lib.hid hw5
        clear hw5
        go_wp2_with fail
        go_ret
        exact ⟨rfl, by rw [← HW5.out]; exact HWF.out⟩
      · have h40z : ¬ (40 : Int) < (xl.length : Int) := by omega
        by_cases hkd : kd = 1
        · subst hkd
          have HW5 := Lib.hid hw5
          clear hw5
          go_wp2_with fail
          rw [← HW5.out]
          refine (push_any (HS.out.below HB5.out) HT.out.1 xA xc xl (HM.out.below HB5.out) (fun g' off' h0 e => by obtain ⟨g2, off2, e', hlt, _⟩ := HMw.out h0; rw [e] at e'; injection e' with e'; injection e'; have := HBB.out; omega) (by omega)).mono ?_
          rintro e w6 ⟨rfl, hS6, hg6⟩
          have hbu := (HS.out).not_u (u := u) (.inr rfl)
          have hR6 := (HR.out.below HB5.out).grown hg6 hbu
          have hB5w := HB.out.trans (HB5.out.mono HB.out.size)
          have hB6 := Below.ofGrown hB5w hg6 hB5w.size HBB.out
          have hA6 := HA5.out.grown hg6 (by intro e; injection e with e; subst e; obtain ⟨⟨F, hF, _⟩, _⟩ := HS.out; have := hF.blt; omega)
          have d1 := hA6.cell' (i := 1) (v := .slice xA xl.length xc) rfl
          have d0 := hA6.cell' (i := 0) (v := .int .i64 1) rfl
          have HS6 := Lib.hid (show HumSt Unit w6 (fun i => i < w.heap.size ∨ i = u) p b (40 * (k + 1)) T (Hm.push T f xl) from hS6.mono (by omega))
          have HR6 := Lib.hid hR6
          have HB6 := Lib.hid hB6
          have HMx := Lib.hid (HMw.out.below hB6)
          clear hS6 hg6 hbu hR6 hB5w hB6 hA6
          go_wp2_with fail
          refine (refpush_any HR6.out HT.out xA xc xl HMx.out (fun g' off' h0 e => by obtain ⟨g2, off2, e', hlt, _⟩ := HMw.out h0; rw [e] at e'; injection e' with e'; injection e'; have := HU.out; omega) (by omega)).mono ?_
          rintro e w7 ⟨rfl, hR7, hg7⟩
          have HSF := Lib.hid (HS6.out.apart hg7 (.inr rfl))
          have HRF := Lib.hid hR7
          have HBF := Lib.hid (Below.ofGrown HB6.out hg7 HB6.out.size HU.out)
          obtain ⟨f7, hf7⟩ : ∃ f7, f7 = Hm.push T f xl := ⟨_, rfl⟩
          rw [← hf7] at HSF HRF
          clear hR7 hg7 hf7 d0 d1 HS6 HR6 HB6 HMx
          go_wp2_with fail
          refine (left_any HSF.out).mono ?_
          rintro e wa ⟨va, rfl, hOa, hba⟩
          have HSa := Lib.hid (HSF.out.below hba)
          have HRa := Lib.hid (HRF.out.below hba)
          have HBa := Lib.hid (HBF.out.trans (hba.mono HBF.out.size))
          have HOa := Lib.hid hOa
          clear hOa hba
          go_wp2_with fail
          refine (refleft_any HRa.out (zero_none HSa.out.sane)).mono ?_
          rintro e wb ⟨vb, rfl, hOb, hbb⟩
          have hOa2 := HOa.out.below hbb
          obtain ⟨Aa, ca, rfl, hRa⟩ := own_rums hOa2 rfl
          obtain ⟨Ab, cb, rfl, hRb⟩ := own_rums hOb rfl
          have HRra := Lib.hid hRa
          have HRrb := Lib.hid hRb
          have HSb := Lib.hid (HSa.out.below hbb)
          have HRb := Lib.hid (HRa.out.below hbb)
          have HBb := Lib.hid (HBa.out.trans (hbb.mono HBa.out.size))
          have HL6 := Lib.hid (Hm.all_six f7)
          clear hOb hbb hOa2 hRa hRb HOa
          go_wp2_with fail
          refine (refSameR_any Aa Ab ca cb _ _ wb (by have := HL6.out; omega) HRra.out HRrb.out).mono ?_
          rintro e wc ⟨rfl, hbc⟩
          rw [decide_eq_true rfl]
          have HSc := Lib.hid (HSb.out.below hbc)
          have HRc := Lib.hid (HRb.out.below hbc)
          have HBc := Lib.hid (HBb.out.trans (hbc.mono HBb.out.size))
          clear hbc
          go_wp2_with fail
          go_roundw
          case rel => exact ⟨k + 1, _, by omega, by omega, by go_num, HSc.out.mono (by omega), HRc.out, HBc.out⟩
          case measure => simp [RowKit.intOf]; omega
        · by_cases hkd2 : kd = 2
          · subst hkd2
            have HW5 := Lib.hid hw5
            clear hw5 hkd
            go_wp2_with fail
            rw [← HW5.out]
            have hq5 : ActS wr.heap.size xn w5 := HA5.out.cell' (i := 2) (v := .int .i64 xn) rfl
            have HUi := Lib.hid Try.underlying3
            obtain ⟨L, hL⟩ : ∃ L, L = (Hm.told xn f).map fun r : Rum => r.m := ⟨_, rfl⟩
            obtain ⟨nl, hnl⟩ : ∃ nl, nl = (Hm.told xn f).length := ⟨_, rfl⟩
            obtain ⟨f7, hf7⟩ : ∃ f7, f7 = Hm.rest xn f := ⟨_, rfl⟩
            have hll : nl = L.length := by rw [hL, hnl, List.length_map]
            have hl6 : L.length ≤ 6 := by rw [hL, List.length_map, Hm.told_len]; have := Hm.all_six f; omega
            have HTK := Lib.hid (show ∀ W, HumSt Unit W (fun i => (i < w.heap.size ∨ i = u) ∨ (wr.heap.size ≤ i ∧ i < W.heap.size)) p b (40 * k) T f → Calls Try.prog 12 #[.pointer (some ⟨p, 0, none⟩), .int .i64 xn] W fun e w6 => ∃ v, e = .returned v ∧ HumSt Unit w6 (fun i => i < w.heap.size ∨ i = u) p b (40 * k) T f7 ∧ Keeps (fun i => (i < w.heap.size ∨ i = u) ∨ (wr.heap.size ≤ i ∧ i < W.heap.size)) W w6 ∧ Own w6 W.heap.size 41 3 v nl (memsV L) from fun W hS5 => by
              rw [hL, hnl, hf7]
              exact (take_any hS5 xn HT.out.2).mono fun e w6 ⟨v, he, h1, h2, h3⟩ => ⟨v, he, h1.less (fun i hi => .inl (.inl hi)), h2, h3⟩)
            have HTR := Lib.hid (show ∀ W, RefHum W u T f → Calls Try.prog 13 #[.pointer (some ⟨u, 0, none⟩), .int .i64 xn] W fun e w7 => ∃ v, e = .returned v ∧ Own w7 W.heap.size 41 3 v nl (memsV L) ∧ RefHum w7 u T f7 ∧ W.grownBy w7 (some u) from fun W hR => by
              rw [hL, hnl, hf7]
              exact reftake_any hR HS.out.sane xn)
            have HLL := Lib.hid (And.intro hll hl6)
            clear hL hnl hf7 hll hl6
            have hqu : wr.heap.size ≠ u := by have := HR.out.lt; omega
            refine wp_region_mix [(0, true), (1, true), (2, true), (4, true), (5, true), (6, true), (3, false), (7, false), (8, false), (9, true)] (ActS wr.heap.size xn)
              (by kernel_rfl) (by kernel_rfl) (fun _ _ d _ _ h => by cases d <;> exact h) (by kernel_rfl) (by decide) hq5 ?_
            iterate 6 (
              refine wpMix_q (by with_unfolding_all rfl) (by kernel_rfl) ?_
              first
                | go_big_quiet_skip
                | ((with_reducible refine wpQuiet_load1 (.int .i64 xn) (by with_unfolding_all rfl) 3 _ (by with_unfolding_all rfl) .i64 HUi.out wr.heap.size 2 (by with_unfolding_all rfl) (fun w h => ActS.out h) ?_); simp only [Act.put, List.setIfInBounds_toArray, List.set_cons_zero, List.set_cons_succ])
                | (go_big_quiet_step (exact fun _ => rfl))
              refine wpMix_qnil ?_)
            have hB5d : Below wr.heap.size wr w5.drew := HB5.out.drew
            have hS5 := HS.out.more hB5d (A' := fun i => (i < w.heap.size ∨ i = u) ∨ (wr.heap.size ≤ i ∧ i < w5.drew.heap.size)) (fun i hi => hi)
            have hR5 := HR.out.below hB5d
            have hq5l : wr.heap.size < w5.heap.size := HA5.out.lt
            refine wpMix_call 12 [.pointer (some ⟨p, 0, none⟩), .int .i64 xn] (fun v w6 => HumSt Unit w6 (fun i => i < w.heap.size ∨ i = u) p b (40 * k) T f7 ∧ Keeps (fun i => i < w.heap.size ∨ i = u) w5.drew w6 ∧ Own w6 w5.drew.heap.size 41 3 v nl (memsV L)) (by with_unfolding_all rfl) (by with_unfolding_all rfl) (by with_unfolding_all rfl)
              ((HTK.out w5.drew hS5).mono (fun e w6 ⟨v, he, h1, h2, h3⟩ => ⟨v, he, (HA5.out.keeps (w := w5.drew) h2 (.inr ⟨Nat.le_refl _, hq5l⟩)).cell' (i := 2) (v := .int .i64 xn) rfl, h1, h2.mono (fun i hi => .inl hi), h3⟩)) ?_
            rintro v6 w6 hq6 ⟨hS6, hK6, hO6⟩
            simp only [Act.put, List.setIfInBounds_toArray, List.set_cons_zero, List.set_cons_succ]
            have hR6 : RefHum w6 u T f := hR5.keeps (A := fun i => i < w.heap.size ∨ i = u) hK6 (.inr rfl)
            have hs56 : w5.heap.size ≤ w6.heap.size := hK6.size
            have hB6 : Below w.heap.size w w6 := (HB.out.trans (HB5.out.mono HB.out.size)).drew.trans (hK6.below (fun i hi => .inl hi) (HB.out.trans (HB5.out.mono HB.out.size)).size)
            refine wpMix_call 13 [.pointer (some ⟨u, 0, none⟩), .int .i64 xn] (fun v w7 => Own w7 w6.heap.size 41 3 v nl (memsV L) ∧ RefHum w7 u T f7 ∧ w6.grownBy w7 (some u)) (by with_unfolding_all rfl) (by with_unfolding_all rfl) (by with_unfolding_all rfl)
              ((HTR.out w6 hR6).mono (fun e w7 ⟨v, he, h1, h2, h3⟩ => ⟨v, he, (World.cell?_of_block (w := w6) (h3.block wr.heap.size (by omega) (by intro e; injection e with e; exact hqu e))).trans hq6, h1, h2, h3⟩)) ?_
            rintro v7 w7 hq7 ⟨hO7, hR7, hg7⟩
            simp only [Act.put, List.setIfInBounds_toArray, List.set_cons_zero, List.set_cons_succ]
            have hS7 := hS6.apart hg7 (.inr rfl)
            have hO67 := hO6.grown (row := some u) hg7 (by
              by_cases he : v6.ownBlock = some u
              · have := (hO6.lt u he).1; have := HR.out.lt; have h9 : wr.heap.size ≤ w5.drew.heap.size := HB5.out.size; omega
              · exact .inr he)
            have hB7 : Below w.heap.size w w7 := Below.ofGrown hB6 hg7 hB6.size HU.out
            obtain ⟨A6, c6, rfl, hM6⟩ := own_mems hO67 HLL.out.1
            obtain ⟨A7, c7, rfl, hM7⟩ := own_mems hO7 HLL.out.1
            refine wpMix_call 11 [.slice A6 L.length c6, .slice A7 L.length c7] (fun v w8 => v = .bool true ∧ Below w7.heap.size w7 w8) (by with_unfolding_all rfl) (by with_unfolding_all rfl) (by with_unfolding_all rfl)
              ((refSame_any A6 A7 c6 c7 _ _ w7 (by have := HLL.out.2; omega) hM6 hM7).mono (fun e w8 ⟨he, h1⟩ => ⟨_, by rw [he, decide_eq_true rfl], (World.cell?_of_block (w := w7) (h1.block wr.heap.size (by have := hg7.size; omega))).trans hq7, rfl, h1⟩)) ?_
            rintro v8 w8 _ ⟨rfl, hb8⟩
            simp only [Act.put, List.setIfInBounds_toArray, List.set_cons_zero, List.set_cons_succ]
            refine wpMix_q (by with_unfolding_all rfl) (by kernel_rfl) ?_
            go_big_quiet_step (exact fun _ => rfl)
            refine wpMix_qnil ?_
            refine wpMix_nil ?_
            have HSF := Lib.hid (hS7.below hb8)
            have HRF := Lib.hid (hR7.below hb8)
            have HBF := Lib.hid (hB7.trans (hb8.mono hB7.size))
            clear hs56 hq5 hqu hB5d hS5 hR5 hq5l hq6 hS6 hK6 hO6 hR6 hB6 hq7 hO7 hR7 hg7 hS7 hO67 hB7 hM6 hM7 hb8
            go_wp2_with fail
            refine (left_any HSF.out).mono ?_
            rintro e wa ⟨va, rfl, hOa, hba⟩
            have HSa := Lib.hid (HSF.out.below hba)
            have HRa := Lib.hid (HRF.out.below hba)
            have HBa := Lib.hid (HBF.out.trans (hba.mono HBF.out.size))
            have HOa := Lib.hid hOa
            clear hOa hba
            go_wp2_with fail
            refine (refleft_any HRa.out (zero_none HSa.out.sane)).mono ?_
            rintro e wb ⟨vb, rfl, hOb, hbb⟩
            have hOa2 := HOa.out.below hbb
            obtain ⟨Aa, ca, rfl, hRa⟩ := own_rums hOa2 rfl
            obtain ⟨Ab, cb, rfl, hRb⟩ := own_rums hOb rfl
            have HRra := Lib.hid hRa
            have HRrb := Lib.hid hRb
            have HSb := Lib.hid (HSa.out.below hbb)
            have HRb := Lib.hid (HRa.out.below hbb)
            have HBb := Lib.hid (HBa.out.trans (hbb.mono HBa.out.size))
            have HL6 := Lib.hid (Hm.all_six f7)
            clear hOb hbb hOa2 hRa hRb HOa
            go_wp2_with fail
            refine (refSameR_any Aa Ab ca cb _ _ wb (by have := HL6.out; omega) HRra.out HRrb.out).mono ?_
            rintro e wc ⟨rfl, hbc⟩
            rw [decide_eq_true rfl]
            have HSc := Lib.hid (HSb.out.below hbc)
            have HRc := Lib.hid (HRb.out.below hbc)
            have HBc := Lib.hid (HBb.out.trans (hbc.mono HBb.out.size))
            clear hbc
            go_wp2_with fail
            go_roundw
            case rel => exact ⟨k + 1, _, by omega, by omega, by go_num, HSc.out.mono (by omega), HRc.out, HBc.out⟩
            case measure => simp [RowKit.intOf]; omega
          · have HW5 := Lib.hid hw5
            clear hw5
            have HSF := Lib.hid (HS.out.below HB5.out)
            have HRF := Lib.hid (HR.out.below HB5.out)
            have HBF := Lib.hid (HB.out.trans (HB5.out.mono HB.out.size))
            go_wp2_with fail
            rw [← HW5.out]
            refine (left_any HSF.out).mono ?_
            rintro e wa ⟨va, rfl, hOa, hba⟩
            have HSa := Lib.hid (HSF.out.below hba)
            have HRa := Lib.hid (HRF.out.below hba)
            have HBa := Lib.hid (HBF.out.trans (hba.mono HBF.out.size))
            have HOa := Lib.hid hOa
            clear hOa hba
            go_wp2_with fail
            refine (refleft_any HRa.out (zero_none HSa.out.sane)).mono ?_
            rintro e wb ⟨vb, rfl, hOb, hbb⟩
            have hOa2 := HOa.out.below hbb
            obtain ⟨Aa, ca, rfl, hRa⟩ := own_rums hOa2 rfl
            obtain ⟨Ab, cb, rfl, hRb⟩ := own_rums hOb rfl
            have HRra := Lib.hid hRa
            have HRrb := Lib.hid hRb
            have HSb := Lib.hid (HSa.out.below hbb)
            have HRb := Lib.hid (HRa.out.below hbb)
            have HBb := Lib.hid (HBa.out.trans (hbb.mono HBa.out.size))
            have HL6 := Lib.hid (Hm.all_six f)
            clear hOb hbb hOa2 hRa hRb HOa
            go_wp2_with fail
            refine (refSameR_any Aa Ab ca cb _ _ wb (by have := HL6.out; omega) HRra.out HRrb.out).mono ?_
            rintro e wc ⟨rfl, hbc⟩
            rw [decide_eq_true rfl]
            have HSc := Lib.hid (HSb.out.below hbc)
            have HRc := Lib.hid (HRb.out.below hbc)
            have HBc := Lib.hid (HBb.out.trans (hbc.mono HBb.out.size))
            clear hbc
            go_wp2_with fail
            go_roundw
            case rel => exact ⟨k + 1, _, by omega, by omega, by go_num, HSc.out.mono (by omega), HRc.out, HBc.out⟩
            case measure => simp [RowKit.intOf]; omega
    · have hend : (¬ (k : Int) < (xs.length : Int)) ∨ ((k : Int) < (xs.length : Int) ∧ ¬ (k : Int) < 100) := by omega
      clear hlt
      rcases hend with he1 | ⟨he1, he2⟩
      · go_wp2_with fail
        go_ret
        exact ⟨rfl, HB.out⟩
      · go_wp2_with fail
        go_ret
        exact ⟨rfl, HB.out⟩
theorem humx_any (n : Int) (A : Option Addr) (c : Nat) (xs : List ActM) (w : World) (_hn : -9223372036854775808 ≤ n ∧ n ≤ 9223372036854775807) (hx : ActsIn w A xs) (h1 : xs.length ≤ c) (h2 : c ≤ maxLen) :
    Calls Try.prog 3 #[.int .i64 n, .slice A xs.length c] w fun e w' => e = .returned (.bool true) ∧ Below w.heap.size w w' := exact_walk n A c xs w hx (Nat.le_trans h1 h2)
end Go.Proofs.Ytepnepgjlnoabaa
