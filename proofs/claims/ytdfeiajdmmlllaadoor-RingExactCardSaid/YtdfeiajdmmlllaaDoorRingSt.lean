/- RingStays: the walk. -/
import Derived.Test.YtdfeiajdmmlllaaDoorRingOw
import Derived.Test.YtdfeiajdmmlllaaDoorMixQ
namespace Go.Proofs.YtdfeiajdmmlllaaDoor
open Go.Proofs Stab Go.Shelf Go.RowKit Go.Lib Go.Sort

def twice (l : List Int) : List Int := l.flatMap fun x => [x, x]
theorem twice_snoc (l : List Int) (x : Int) : twice (l ++ [x]) = twice l ++ [x, x] := by unfold twice; rw [List.flatMap_append]; rfl
theorem twice_mem {l : List Int} {x : Int} : x ∈ twice l ↔ x ∈ l := by
  unfold twice
  rw [List.mem_flatMap]
  constructor
  · rintro ⟨y, hy, h⟩
    simp at h
    rw [h]; exact hy
  · exact fun h => ⟨x, h, by simp⟩
theorem twice_len (l : List Int) : (twice l).length = 2 * l.length := by
  unfold twice
  induction l with
  | nil => rfl
  | cons x r ih => rw [List.flatMap_cons, List.length_append, ih]; simp; omega
/-- the last j numbers, from the end on -/
def lastR (l : List Int) (j : Nat) : List Int := (l.drop (l.length - j)).reverse
theorem lastR_succ (l : List Int) (j : Nat) (hj : j < l.length) : lastR l (j + 1) = lastR l j ++ [l[l.length - 1 - j]'(by omega)] := by
  unfold lastR
  have e : l.length - (j + 1) = l.length - 1 - j := by omega
  rw [e, List.drop_eq_getElem_cons (by omega), List.reverse_cons]
  have e2 : l.length - 1 - j + 1 = l.length - j := by omega
  rw [e2]
theorem lastR_all (l : List Int) : lastR l l.length = l.reverse := by unfold lastR; rw [Nat.sub_self, List.drop_zero]
theorem lastR_zero (l : List Int) : lastR l 0 = [] := by unfold lastR; rw [Nat.sub_zero, List.drop_length]; rfl
theorem lastR_len (l : List Int) (j : Nat) : (lastR l j).length ≤ j := by unfold lastR; rw [List.length_reverse, List.length_drop]; omega
theorem filt_one (l : List Int) (g x : Int) : (l ++ [x]).filter (fun n => decide (n ≠ g)) = l.filter (fun n => decide (n ≠ g)) ++ (if x ≠ g then [x] else []) := by
  rw [List.filter_append]
  congr 1
  by_cases h : x = g <;> simp [h]
/-- a cell of a row of integers, later too -/
theorem int_cells {w : World} {A : Option Addr} {l : List Int} (h : EncIn encN 1 w A l) {i : Nat} (hi : i < l.length) : ∃ g off, A = some ⟨g, off, none⟩ ∧ ∀ W, Behind w W → W.cell? ⟨g, off + i, none⟩ = some (.int .i64 l[i]) := by
  obtain ⟨g, off, h1, h2, h3⟩ := h.at hi
  refine ⟨g, off, h1, fun W hW => ?_⟩
  have h4 := h3 0 _ rfl
  rw [Nat.mul_one, Nat.add_zero] at h4
  exact (hW.cell (p := ⟨g, off + i, none⟩) h2).trans h4
/-- the cells of a row of integers -/
theorem int_row {w : World} {A : Option Addr} {l : List Int} (h : EncIn encN 1 w A l) (h0 : 0 < l.length) : ∃ g off, A = some ⟨g, off, none⟩ ∧ ∀ i (hi : i < l.length) W, Behind w W → W.cell? ⟨g, off + i, none⟩ = some (.int .i64 l[i]) := by
  obtain ⟨g, off, h1, h2, h3⟩ := h h0
  refine ⟨g, off, h1, fun i hi W hW => ?_⟩
  have h4 := h3 i hi 0 _ rfl
  rw [Nat.mul_one, Nat.add_zero] at h4
  exact (hW.cell (p := ⟨g, off + i, none⟩) h2).trans h4
/-- two rows that grow beside each other -/
def SepI (v u : Value) : Prop := ∀ g, v.ownBlock = some g → u.ownBlock ≠ some g
structure TwoR (g8 : Nat) (w : World) (v8 v9 : Value) (N8 N9 : Nat) (S8 S9 : List Int) : Prop where
  o8 : Own w g8 3 1 v8 N8 (S8.flatMap encN)
  o9 : Own w g8 3 1 v9 N9 (S9.flatMap encN)
  sep : SepI v8 v9
  n8 : N8 = S8.length
  n9 : N9 = S9.length
theorem TwoR.up {g8 : Nat} {w w' : World} {v8 v9 : Value} {N8 N9 : Nat} {S8 S9 : List Int} (h : TwoR g8 w v8 v9 N8 N9 S8 S9) (hb : Behind w w') : TwoR g8 w' v8 v9 N8 N9 S8 S9 := ⟨h.o8.below hb, h.o9.below hb, h.sep, h.n8, h.n9⟩
theorem SepI.symm {v u : Value} (h : SepI v u) : SepI u v := fun g h1 h2 => h g h2 h1
theorem SepI.ne {v u : Value} (h : SepI v u) : v.ownBlock = none ∨ v.ownBlock ≠ u.ownBlock := by
  cases hv : v.ownBlock with
  | none => exact .inl rfl
  | some g => exact .inr fun e => h g hv e.symm
theorem SepI.grown {w : World} {B : Nat} {n : Nat} {xs : List Value} {v u u' : Value} (h : SepI v u) (hO : Own w B 3 1 v n xs) (hob : u'.ownBlock = u.ownBlock ∨ u'.ownBlock = some w.heap.size) : SepI v u' := fun g h1 h2 => by
  rcases hob with e | e
  · exact h g h1 (e ▸ h2)
  · rw [e] at h2
    have := (hO.lt g h1).2
    have := Option.some.inj h2
    omega
theorem TwoR.app8 {g8 : Nat} {w w' : World} {v8 v9 v8' : Value} {N8 N9 N8' : Nat} {S8 S9 S8' : List Int} (h : TwoR g8 w v8 v9 N8 N9 S8 S9) (hO : Own w' g8 3 1 v8' N8' (S8'.flatMap encN)) (hN : N8' = S8'.length) (hg : w.grownBy w' v8.ownBlock) (hob : v8'.ownBlock = v8.ownBlock ∨ v8'.ownBlock = some w.heap.size) : TwoR g8 w' v8' v9 N8' N9 S8' S9 :=
  ⟨hO, h.o9.grown hg h.sep.symm.ne, (h.sep.symm.grown h.o9 hob).symm, hN, h.n9⟩
theorem TwoR.app9 {g8 : Nat} {w w' : World} {v8 v9 v9' : Value} {N8 N9 N9' : Nat} {S8 S9 S9' : List Int} (h : TwoR g8 w v8 v9 N8 N9 S8 S9) (hO : Own w' g8 3 1 v9' N9' (S9'.flatMap encN)) (hN : N9' = S9'.length) (hg : w.grownBy w' v9.ownBlock) (hob : v9'.ownBlock = v9.ownBlock ∨ v9'.ownBlock = some w.heap.size) : TwoR g8 w' v8 v9' N8 N9' S8 S9' :=
  ⟨h.o8.grown hg h.sep.ne, hO, h.sep.grown h.o8 hob, h.n8, hN⟩
theorem sep_two {g h : Nat} (n m c d : Nat) (hne : g ≠ h) : SepI (.slice (some ⟨g, 0, none⟩) n c) (.slice (some ⟨h, 0, none⟩) m d) := fun k h1 h2 => by
  have e1 : g = k := Option.some.inj h1
  have e2 : h = k := Option.some.inj h2
  omega
set_option maxRecDepth 100000 in
set_option maxHeartbeats 8000000 in
theorem stays_any (key : List UInt8) (hk : key.length = 32) (A0 : Option Addr) (c0 : Nat) (l : List Int) (gone : Int) (w : World) (hE0 : EncIn encN 1 w A0 l) (_ : l.length ≤ c0) (hm0 : c0 ≤ maxLen) (_ : A0 = none → c0 = 0) (hwd : Tab w 0 (u32s Sha.words)) :
    Calls Tryd.prog 4 #[.agg (u8s key).toArray, .slice A0 l.length c0, .int .i64 gone] w fun e w' => e = .returned (.bool true) ∧ Below w.heap.size w w' := by
  have hn0 : l.length ≤ 9223372036854775807 := by unfold maxLen at hm0; omega
  have h1 : At (w.alloc (.cells (u8s key).toArray 23)) w.heap.size 23 (u8s key) := At.new w _ _
  have hb : Behind w (w.alloc (.cells (u8s key).toArray 23)) := (Below.refl _ _).alloc (Nat.le_refl _) _
  have HW := Lib.hid (show ∀ W, Behind (w.alloc (.cells (u8s key).toArray 23)) W → Tab W 0 (u32s Sha.words) from fun W h => hwd.below (Behind.trM hb h) hwd.lt)
  have HE := Lib.hid (show ∀ W, Behind (w.alloc (.cells (u8s key).toArray 23)) W → EncIn encN 1 W A0 l from fun W h => hE0.up (Behind.trM hb h))
  have HSK := Lib.hid (show ∀ W, Behind (w.alloc (.cells (u8s key).toArray 23)) W → W.rangeAt w.heap.size 0 (u8s key) from fun W h => (h1.below h h1.lt).all)
  have HB0 := Lib.hid hb
  have HKL := Lib.hid hk
  have HU := Lib.hid Tryd.underlying23
  have HI := Lib.hid (infoDg13 hk)
  obtain ⟨n, hn⟩ : ∃ n, n = l.length := ⟨_, rfl⟩
  rw [← hn] at hn0 ⊢
  have HN := Lib.hid hn
  clear hE0 hm0 hwd h1 hb hk hn
  go_enter Tryd.func4, Tryd.ntmps4
  go_upto_region 1 with fail
  obtain ⟨gq3, hgq3⟩ : ∃ g, g = w.heap.size := ⟨_, rfl⟩
  rw [← hgq3] at HSK ⊢
  clear hgq3
  generalize w.alloc (.cells (u8s key).toArray 23) = w0 at HW HE HSK HB0 ⊢
  have HAW := Lib.hid (awake13_any w0 (HW.out w0 (Behind.refl _)))
  go_upto_region 3 with (first
    | (go_at_call 7; (with_reducible refine Calls.mono HAW.out ?_); rintro e w1 ⟨rfl, hb⟩; have HB1 := Lib.hid (show Behind w0 w1 from hb); clear hb))
  by_cases h60 : 60 < n
  · have hz : (60 : Int) < (n : Int) := by omega
    go_wp2_with fail
    go_ret
    exact ⟨rfl, Behind.trM HB0.out HB1.out⟩
  have hz60 : ¬ (60 : Int) < (n : Int) := by omega
  obtain ⟨K, hK⟩ : ∃ K, K = walkK key l := ⟨_, rfl⟩
  obtain ⟨M, hM⟩ : ∃ M, M = K.length := ⟨_, rfl⟩
  have hM6 : M ≤ 6 := by rw [hM, hK]; exact walk_len _ _
  have HWK := Lib.hid (show ∀ W, Behind w0 W → Calls Tryd.prog 13 #[.agg (u8s key).toArray, .slice A0 n c0] W fun e w' => ∃ A' c', e = .returned (.slice A' M c') ∧ M ≤ c' ∧ EncIn encN 1 w' A' K ∧ Below W.heap.size W w' from fun W hW => by rw [hK] at hM ⊢; exact walk_any key HKL.out A0 c0 n l W HN.out (HE.out W hW) (by omega) (HW.out W hW) M hM)
  have HKK := Lib.hid hK
  have HMM := Lib.hid hM
  clear hK hM
  go_upto_region 8 with (first
    | (with_reducible refine wpList_loadW (o := ⟨some 24, _, _, _, _, _⟩) (by with_unfolding_all rfl) 23 (.tmp 3) rfl gq3 0 (by with_unfolding_all rfl) (u8s key) _ (HSK.out _ (HB1.out)) HU.out (by with_unfolding_all rfl) HI.out ?_)
    | (go_at_call 13; (with_reducible refine Calls.mono (HWK.out w1 HB1.out) ?_); rintro e w2 ⟨A7, c7, rfl, hc, hE, hb⟩; have HE72 := Lib.hid hE; have HC7 := Lib.hid hc; have HB2 := Lib.hid (Behind.trM HB1.out hb); clear hc hE hb)
    | ((with_reducible refine wpList_none13 (o := ⟨some 27, _, _, _, _, _⟩) rfl rfl Tryd.underlying24 sizeInt ?_); intro g8 w3 hg hs hO hb; have HO8 := Lib.hid hO; have HB3 := Lib.hid (Behind.trM HB2.out hb); have HB23 := Lib.hid (show Behind w2 w3 from hb); have HG8 := Lib.hid (show w2.heap.size ≤ g8 ∧ g8 < w3.heap.size by omega); clear hg hs hO hb)
    | ((with_reducible refine wpList_none13 (o := ⟨some 28, _, _, _, _, _⟩) rfl rfl Tryd.underlying24 sizeInt ?_); intro g9 w4 hg hs hO hb; have HO9 := Lib.hid hO; have HO84 := Lib.hid (HO8.out.below hb); have HB4 := Lib.hid (Behind.trM HB3.out hb); have HB24 := Lib.hid (Behind.trM HB23.out hb); have HG9 := Lib.hid (show g8 ≤ g9 ∧ g8 < g9 ∧ g9 < w4.heap.size by have := HG8.out; omega); clear hg hs hO hb))
  obtain ⟨v8, hv8⟩ : ∃ v, v = Value.slice (some ⟨g8, 0, none⟩) 0 0 := ⟨_, rfl⟩
  obtain ⟨v9, hv9⟩ : ∃ v, v = Value.slice (some ⟨g9, 0, none⟩) 0 0 := ⟨_, rfl⟩
  have htw : TwoR g8 w4 v8 v9 0 0 [] [] := ⟨by rw [hv8]; exact HO84.out, by rw [hv9]; exact Own.rebase HO9.out HG9.out.1, by rw [hv8, hv9]; exact sep_two 0 0 0 0 (by have := HG9.out; omega), rfl, rfl⟩
  have HTW := Lib.hid htw
  rw [← hv8, ← hv9]
  clear hv8 hv9 htw HO84 HO9
  have hw1 : IntKind.i64.wrap ((n : Int) - 1) = (n : Int) - 1 := IntWalk.i64_in _ (by omega)
  go_wp2_with fail
  go_loopg [8, 9, 10] n (fun gg s8 s9 s10 wr => ∃ (j N8 N9 : Nat) (v8 v9 : Value), v8 = s8 ∧ v9 = s9 ∧ s10 = .int .i64 ((n : Int) - 1 - j) ∧ j ≤ n ∧ n - j ≤ gg ∧ N8 = 2 * j ∧ N9 ≤ j ∧ Hid (TwoR g8 wr v8 v9 N8 N9 (twice (lastR l j)) ((lastR l j).filter fun n => decide (n ≠ gone))) ∧ Hid (Behind w2 wr) ∧ Hid (g8 ≤ wr.heap.size))
  case atStart => exact ⟨0, 0, 0, v8, v9, rfl, rfl, by simp, Nat.zero_le _, by omega, by omega, Nat.le_refl _, (show Hid _ from by rw [lastR_zero]; exact HTW.out), HB24.out, (show Hid _ from (show g8 ≤ w4.heap.size by have := HG9.out; omega))⟩
  case round =>
    obtain ⟨j, N8, N9, u8, u9, hu8, hu9, rfl, hj, hgg, hN8, hN9, HT, HQ, HGL⟩ := hrel
    subst hu8 hu9
    clear HTW
    by_cases hlt : j < n
    · obtain ⟨i, hi⟩ : ∃ i : Nat, (n : Int) - 1 - (j : Int) = (i : Int) := ⟨n - 1 - j, by omega⟩
      rw [hi]
      have hgez : (0 : Int) ≤ (i : Int) := by omega
      have hw2 : IntKind.i64.wrap ((i : Int) - 1) = (i : Int) - 1 := IntWalk.i64_in _ (by omega)
      have hil : i < l.length := by have := HN.out; omega
      have hin : (i : Int) < (n : Int) := by omega
      obtain ⟨gX, oX, hAX, hcX⟩ := int_cells (HE.out w0 (Behind.refl _)) hil
      have hsn := lastR_succ l j (by have := HN.out; omega)
      have hii : l.length - 1 - j = i := by have := HN.out; omega
      simp only [hii] at hsn
      obtain ⟨x, hx⟩ : ∃ x, x = l[i] := ⟨_, rfl⟩
      rw [← hx] at hcX hsn
      have HSN := Lib.hid hsn
      have HCX := Lib.hid hcX
      clear hx hsn hii hcX
      subst hAX
      go_upto_region 11 with fail
      refine wp_region_mix [(0, true), (1, true), (2, true), (3, true), (4, true), (5, true), (6, true), (7, true), (8, true), (9, false), (10, false), (11, true)] (Behind w2)
        (by kernel_rfl) (by kernel_rfl) (fun _ _ d _ _ h => by cases d <;> exact h) (by kernel_rfl) (by decide) (Behind.trM HQ.out (Below.refl _ _).drew) ?_
      have hz0 : Behind w2 wr.drew := Behind.trM HQ.out (Below.refl _ _).drew
      have HT0 := Lib.hid (HT.out.up (Below.refl _ _).drew)
      have hs0 : wr.heap.size ≤ wr.drew.heap.size := ((Below.refl _ _).drew : Behind wr wr.drew).size
      repeat (
        refine wpMix_q (by with_unfolding_all rfl) (by kernel_rfl) ?_
        first
          | go_big_quiet_skip
          | ((with_reducible refine wpQuiet_load1 (.int .i64 x) (by with_unfolding_all rfl) 3 _ (by with_unfolding_all rfl) .i64 Tryd.underlying3 gX (oX + i) (by with_unfolding_all rfl) (fun w h => HCX.out w (Behind.trM HB2.out h)) ?_); simp only [Act.put, List.setIfInBounds_toArray, List.set_cons_zero, List.set_cons_succ])
          | (go_big_quiet_step (exact fun _ => rfl))
        refine wpMix_qnil ?_)
      refine wpMix_put (.slice (some ⟨wr.drew.heap.size, 0, none⟩) 2 2) (wr.drew.alloc (.cells #[.int .i64 x, .int .i64 x] 3)) (by with_unfolding_all rfl) (by with_unfolding_all rfl) (exec_int2 (.tmp 40) (.tmp 44) (by with_unfolding_all rfl) (by with_unfolding_all rfl) (by with_unfolding_all rfl) wr.drew) (hz0.alloc hz0.size _) ?_
      simp only [Act.put, List.setIfInBounds_toArray, List.set_cons_zero, List.set_cons_succ]
      have hz1 : Behind w2 (wr.drew.alloc (.cells #[.int .i64 x, .int .i64 x] 3)) := hz0.alloc hz0.size _
      have hb01 : Behind wr.drew (wr.drew.alloc (.cells #[.int .i64 x, .int .i64 x] 3)) := (Below.refl _ _).alloc (Nat.le_refl _) _
      have HT1 := Lib.hid (HT0.out.up hb01)
      have hs1 := hb01.size
      have HEX := laid_ints wr.drew [x, x]
      obtain ⟨g45, hg45⟩ : ∃ g, g = wr.drew.heap.size := ⟨_, rfl⟩
      rw [← hg45] at HEX ⊢
      clear hg45 hz0 hb01
      change EncIn encN 1 (wr.drew.alloc (.cells #[.int .i64 x, .int .i64 x] 3)) (some ⟨g45, 0, none⟩) [x, x] at HEX
      generalize wr.drew.alloc (.cells #[.int .i64 x, .int .i64 x] 3) = z1 at hz1 HT1 hs1 HEX ⊢
      refine wpMix_step (by with_unfolding_all rfl) (by with_unfolding_all rfl) (fun K hK => wp_append_enc (enc := encN) (k := 1) (.tmp 36) (.tmp 45) 24 3 8 (by with_unfolding_all rfl) _ Tryd.underlying24 info3Int (by decide) (by decide) g8 u8 N8 (twice (lastR l j)) [x, x] (by with_unfolding_all rfl) HT1.out.o8 (fun x _ => encN_len x) (fun x _ => encN_one x) (some ⟨g45, 0, none⟩) 2 2 (by with_unfolding_all rfl) rfl HEX (by unfold maxLen; simp; omega) (by simp; omega) (by have := HGL.out; omega) ?_)
      intro v46 z2 hO46 hg46 hob
      have hz2 : Behind w2 z2 := own_below2 HT1.out.o8 hz1 HG8.out.1 hz1.size hg46
      refine hK _ _ hz2 ?_
      simp only [Act.put, List.setIfInBounds_toArray, List.set_cons_zero, List.set_cons_succ]
      have HT2 := Lib.hid (show TwoR g8 z2 v46 u9 (N8 + 2) N9 (twice (lastR l (j + 1))) ((lastR l j).filter fun n => decide (n ≠ gone)) from HT1.out.app8 (by rw [HSN.out, twice_snoc]; exact hO46) (by rw [HSN.out, twice_snoc, List.length_append, ← HT1.out.n8]; rfl) hg46 hob)
      have HQ2 := Lib.hid hz2
      have HG2 := Lib.hid (show g8 ≤ z2.heap.size by have := HGL.out; have := hg46.size; omega)
      clear hK hg46 hO46 hob HEX hz1 hz2 HT1 HT0 hs0 hs1 HT HQ HGL
      repeat (
        refine wpMix_q (by with_unfolding_all rfl) (by kernel_rfl) ?_
        first
          | go_big_quiet_skip
          | (go_big_quiet_step (exact fun _ => rfl))
        refine wpMix_qnil ?_)
      refine wpMix_nil ?_
      have hc := HCX.out z2 (Behind.trM HB2.out HQ2.out)
      by_cases he : x = gone
      · have hez : (x != gone) = false := by simp [he]
        have HNX := Lib.hid (show (lastR l (j + 1)).filter (fun n => decide (n ≠ gone)) = (lastR l j).filter (fun n => decide (n ≠ gone)) by rw [HSN.out, filt_one, if_neg (by simp [he]), List.append_nil])
        clear he
        go_wp2_with fail
        go_roundg (n - (j + 1))
        case measure => omega
        case rel => exact ⟨j + 1, N8 + 2, N9, v46, u9, rfl, rfl, by rw [show (i : Int) - 1 = (n : Int) - 1 - ((j + 1 : Nat) : Int) by omega], by omega, Nat.le_refl _, by omega, by omega, (show Hid _ from by rw [HNX.out]; exact HT2.out), HQ2.out, HG2.out⟩
      · have hez : (x != gone) = true := by simp [he]
        have HNX := Lib.hid (show (lastR l (j + 1)).filter (fun n => decide (n ≠ gone)) = (lastR l j).filter (fun n => decide (n ≠ gone)) ++ [x] by rw [HSN.out, filt_one, if_pos he])
        clear he
        go_wp2_with (first
          | ((with_reducible refine wpList_int1 (o := ⟨some 58, _, _, _, _, _⟩) (by with_unfolding_all rfl) (.tmp 57) rfl x (by with_unfolding_all rfl) ?_); intro g58 wj hg hb hE; have HEO := Lib.hid hE; have HT3 := Lib.hid (HT2.out.up hb); have HBj := Lib.hid (Behind.trM HQ2.out hb); have hgj : g8 ≤ wj.heap.size := Nat.le_trans HG2.out hb.size; clear hg hb hE)
          | (at_builtin; refine wpList_append_enc (enc := encN) (k := 1) rfl rfl (.tmp 53) (.tmp 58) 24 3 8 rfl _ Tryd.underlying24 info3Int rfl (by decide) g8 u9 N9 ((lastR l j).filter fun n => decide (n ≠ gone)) [x] rfl HT3.out.o9 (fun _ _ => encN_len _) (fun _ _ => encN_one _) (some ⟨g58, 0, none⟩) 1 1 rfl (show 1 = [x].length from rfl) HEO.out (by unfold maxLen; simp; omega) (by simp; omega) hgj ?_; intro v59 wk hO7 hg7 hob; have HT4 := Lib.hid (show TwoR g8 wk v46 v59 (N8 + 2) (N9 + 1) (twice (lastR l (j + 1))) ((lastR l (j + 1)).filter fun n => decide (n ≠ gone)) from HT3.out.app9 (by rw [HNX.out]; exact hO7) (by rw [HNX.out, List.length_append, ← HT3.out.n9]; rfl) hg7 hob); have HB7 := Lib.hid (show Behind w2 wk from own_below2 HT3.out.o9 HBj.out HG8.out.1 (Nat.le_trans HG8.out.1 hgj) hg7); have hgk2 : g8 ≤ wk.heap.size := Nat.le_trans hgj hg7.size; clear hO7 hg7 hob))
        go_roundg (n - (j + 1))
        case measure => omega
        case rel => exact ⟨j + 1, N8 + 2, N9 + 1, v46, v59, rfl, rfl, by rw [show (i : Int) - 1 = (n : Int) - 1 - ((j + 1 : Nat) : Int) by omega], by omega, Nat.le_refl _, by omega, by omega, HT4.out, HB7.out, (show Hid _ from hgk2)⟩
    · have hltz : ¬ (0 : Int) ≤ (n : Int) - 1 - (j : Int) := by omega
      have hjn : j = n := by omega
      subst hjn
      have hlr : lastR l j = l.reverse := by rw [HN.out]; exact lastR_all l
      have ht := HT.out
      rw [hlr] at ht
      obtain ⟨A8, c8, hu8, hc8, hE8⟩ := ht.o8.rows ht.n8 (fun x _ => encN_len x)
      obtain ⟨A9, c9, hu9, hc9, hE9⟩ := ht.o9.rows ht.n9 (fun x _ => encN_len x)
      have HN8 := Lib.hid ht.n8
      have HN9 := Lib.hid ht.n9
      have HE8 := Lib.hid hE8
      have HE9 := Lib.hid hE9
      have hwk8 : walkK key (twice l.reverse) = K := by rw [HKK.out]; exact walk_same fun n => by rw [twice_mem, List.mem_reverse]
      have hwk9 : walkK key (l.reverse.filter fun n => decide (n ≠ gone)) = K.filter fun n => decide (n ≠ gone) := by
        rw [HKK.out]
        have h := walk_without (farR key) l.reverse gone
        rw [walk_same (l := l) (m := l.reverse) fun n => List.mem_reverse] at h
        exact h
      have HWK8 := Lib.hid hwk8
      have HWK9 := Lib.hid hwk9
      have HB5 := Lib.hid (Behind.trM HB2.out HQ.out)
      have HE75 := Lib.hid (HE72.out.up HQ.out)
      subst hu8 hu9
      have hNb8 : N8 < 1000 := by omega
      have hNb9 : N9 < 1000 := by omega
      have hjz : j ≤ 60 := by omega
      clear ht hlr hE8 hE9 hc8 hc9 hwk8 hwk9 HT HGL hN8 hN9 hgg hj HB3 HB23 HB4 HB24 HG8 HG9 hw1
      generalize wr = w5 at *
      go_upto_region 15 with (first
        | ((with_reducible refine wpList_none13 (o := ⟨some 60, _, _, _, _, _⟩) rfl rfl Tryd.underlying24 sizeInt ?_); intro g11 w6 hg hs hO hb; have HO11 := Lib.hid hO; have HB6 := Lib.hid (show Behind w5 w6 from hb); have HG11 := Lib.hid (show w5.heap.size ≤ g11 ∧ g11 < w6.heap.size by omega); clear hg hs hO hb))
      obtain ⟨v11, hv11⟩ : ∃ v, v = Value.slice (some ⟨g11, 0, none⟩) 0 0 := ⟨_, rfl⟩
      rw [← hv11] at HO11 ⊢
      clear hv11
      go_wp2_with fail
      go_loopg [11, 12] M (fun gg s11 s12 wr => ∃ (i N : Nat) (v : Value), v = s11 ∧ s12 = .int .i64 i ∧ i ≤ M ∧ M - i ≤ gg ∧ N ≤ i ∧ Hid (N = ((K.take i).filter fun n => decide (n ≠ gone)).length) ∧ Hid (Own wr g11 3 1 v N (((K.take i).filter fun n => decide (n ≠ gone)).flatMap encN)) ∧ Hid (Behind w5 wr) ∧ Hid (g11 ≤ wr.heap.size))
      case atStart => exact ⟨0, 0, v11, rfl, rfl, Nat.zero_le _, by omega, Nat.le_refl _, (show Hid _ from rfl), HO11.out, HB6.out, (show Hid _ from Nat.le_of_lt HG11.out.2)⟩
      case round =>
        obtain ⟨i, N, v, hv, rfl, hi, hgg, hNi, HNF, HO, HQ, HGL⟩ := hrel
        subst hv
        generalize wr = wo at *
        by_cases hlt : i < M
        · have hltz : (i : Int) < (M : Int) := by omega
          have i0 : (0 : Int) ≤ (i : Int) := by omega
          have hil : i < K.length := by have := HMM.out; omega
          obtain ⟨gK, oK, hAK, hcK⟩ := int_row HE75.out (by omega)
          have HCK := Lib.hid hcK
          have hxm : K[i] ∈ walkR (farR key) l := (fun z hz => by rw [HKK.out] at hz; exact hz : ∀ z, z ∈ K → z ∈ walkR (farR key) l) _ (List.getElem_mem hil)
          have hxm2 := mem_walk.1 hxm
          have hdf : ∀ k (h : k < i), K[k]'(by omega) ≠ K[i] := fun k h => by
            have hp := walk_up (farR key) l
            have hp2 : K.Pairwise (ltN (farR key)) := by rw [HKK.out]; exact hp
            have h3 := List.pairwise_iff_getElem.1 hp2 k i (by omega) hil h
            intro e
            rw [e] at h3
            exact ltN_irrefl h3
          have hsn := filt_snoc K gone i hil
          have hcX := hcK i hil
          obtain ⟨x, hx⟩ : ∃ x, x = K[i] := ⟨_, rfl⟩
          rw [← hx] at hcX hsn hdf hxm2
          have HSN := Lib.hid hsn
          have HCX := Lib.hid hcX
          have HDF := Lib.hid hdf
          have HXM := Lib.hid hxm2.1
          have hlo : ¬ x < (1 : Int) := by have := hxm2.2.1; omega
          have hhi : ¬ (6 : Int) < x := by have := hxm2.2.2; omega
          have hc := HCX.out wo HQ.out
          clear hx hsn hcK hcX hxm hxm2 hdf
          subst hAK
          go_wp2_with fail
          clear hc hlo hhi
          go_loopg [13, 14] j (fun gg s13 s14 wr => ∃ (k : Nat) (b : Bool), s14 = .int .i64 k ∧ s13 = .bool b ∧ k ≤ j ∧ j - k ≤ gg ∧ Hid (b = (l.take k).any fun y => decide (y = x)) ∧ Hid (Behind wo wr))
          case atStart => exact ⟨0, false, rfl, rfl, Nat.zero_le _, by omega, (show Hid _ from (rfl : false = (l.take 0).any fun y => decide (y = x))), Behind.refl _⟩
          case round =>
            obtain ⟨k, b, rfl, rfl, hk, hkk, HA, HQ1⟩ := hrel
            have HQ15 := Lib.hid (Behind.trM HQ.out HQ1.out)
            by_cases hlk : k < j
            · have hlkz : (k : Int) < (j : Int) := by omega
              have k0 : (0 : Int) ≤ (k : Int) := by omega
              have hkl : k < l.length := by have := HN.out; omega
              obtain ⟨gA, oA, hAA, hcA⟩ := int_cells (HE.out w0 (Behind.refl _)) hkl
              have hst : (l.take (k + 1)).any (fun y => decide (y = x)) = (b || decide (l[k] = x)) := by
                rw [List.take_succ_eq_append_getElem hkl, List.any_append, ← HA.out]
                simp
              obtain ⟨y, hy⟩ : ∃ y, y = l[k] := ⟨_, rfl⟩
              rw [← hy] at hcA hst
              have HST := Lib.hid hst
              have HCA := Lib.hid hcA
              clear hy hst hcA
              subst hAA
              cases b with
              | true =>
                go_wp2_with fail
                refine wp_region_class (Behind wr) (by kernel_rfl) (by kernel_rfl) (Below.refl _ _).drew ?_
                iterate 13 (first
                  | go_big_quiet_skip
                  | (go_big_quiet_step (exact fun _ => rfl)))
                with_reducible refine wpQuiet_nil ?_
                intro w3 hw3
                have HQ3 := Lib.hid (show Behind wr w3 from hw3)
                clear hw3
                go_wp2_with fail
                go_roundg (j - (k + 1))
                case measure => omega
                case rel => exact ⟨k + 1, true, by go_num, rfl, by omega, Nat.le_refl _, (show Hid _ from (by rw [HST.out]; rfl)), Behind.trM HQ1.out HQ3.out⟩
              | false =>
                go_wp2_with fail
                refine wp_region_class (Behind wr) (by kernel_rfl) (by kernel_rfl) (Below.refl _ _).drew ?_
                iterate 13 (first
                  | go_big_quiet_skip
                  | ((with_reducible refine wpQuiet_load1 (.int .i64 y) (by with_unfolding_all rfl) 3 _ (by with_unfolding_all rfl) .i64 Tryd.underlying3 gA (oA + k) (by with_unfolding_all rfl) (fun w h => HCA.out w (Behind.trM (Behind.trM HB5.out HQ15.out) h)) ?_); simp only [Act.put, List.setIfInBounds_toArray, List.set_cons_zero, List.set_cons_succ])
                  | ((with_reducible refine wpQuiet_load1 (.int .i64 x) (by with_unfolding_all rfl) 3 _ (by with_unfolding_all rfl) .i64 Tryd.underlying3 gK (oK + i) (by with_unfolding_all rfl) (fun w h => HCX.out w (Behind.trM HQ15.out h)) ?_); simp only [Act.put, List.setIfInBounds_toArray, List.set_cons_zero, List.set_cons_succ])
                  | (go_big_quiet_step (exact fun _ => rfl)))
                with_reducible refine wpQuiet_nil ?_
                intro w3 hw3
                have HQ3 := Lib.hid (show Behind wr w3 from hw3)
                clear hw3
                go_wp2_with fail
                go_roundg (j - (k + 1))
                case measure => omega
                case rel => exact ⟨k + 1, (y == x), by go_num, rfl, by omega, Nat.le_refl _, (show Hid _ from (by rw [HST.out]; rfl)), Behind.trM HQ1.out HQ3.out⟩
            · have hlkz : ¬ (k : Int) < (j : Int) := by omega
              have hb : b = true := by
                rw [HA.out, List.take_of_length_le (by have := HN.out; omega), List.any_eq_true]
                exact ⟨x, HXM.out, by simp⟩
              subst hb
              clear hkk HA hk
              generalize wr = wi at *
              go_wp2_with fail
              go_loopg [13, 15] i (fun gg s13 s15 wr => ∃ (k : Nat) (b : Bool), s15 = .int .i64 k ∧ s13 = .bool b ∧ k ≤ i ∧ i - k ≤ gg ∧ Hid (b = true) ∧ Hid (Behind wo wr))
              case atStart => exact ⟨0, true, rfl, rfl, Nat.zero_le _, by omega, (show Hid _ from rfl), HQ1.out⟩
              case round =>
                obtain ⟨k2, b, rfl, rfl, hk2, hkk2, hb2, HQ2⟩ := hrel
                have hb3 := hb2.out
                subst hb3
                have HQ25 := Lib.hid (Behind.trM HQ.out HQ2.out)
                by_cases hlk2 : k2 < i
                · have hlkz2 : (k2 : Int) < (i : Int) := by omega
                  have hk2M : (k2 : Int) < (M : Int) := by omega
                  have k20 : (0 : Int) ≤ (k2 : Int) := by omega
                  have hkl2 : k2 < K.length := by have := HMM.out; omega
                  have hcY := HCK.out k2 hkl2
                  have hne := HDF.out k2 hlk2
                  obtain ⟨y, hy⟩ : ∃ y, y = K[k2] := ⟨_, rfl⟩
                  rw [← hy] at hcY hne
                  have HNE := Lib.hid hne
                  have HCY := Lib.hid hcY
                  clear hy hcY hne
                  go_wp2_with fail
                  refine wp_region_class (Behind wr) (by kernel_rfl) (by kernel_rfl) (Below.refl _ _).drew ?_
                  iterate 13 (first
                    | go_big_quiet_skip
                    | ((with_reducible refine wpQuiet_load1 (.int .i64 y) (by with_unfolding_all rfl) 3 _ (by with_unfolding_all rfl) .i64 Tryd.underlying3 gK (oK + k2) (by with_unfolding_all rfl) (fun w h => HCY.out w (Behind.trM HQ25.out h)) ?_); simp only [Act.put, List.setIfInBounds_toArray, List.set_cons_zero, List.set_cons_succ])
                    | ((with_reducible refine wpQuiet_load1 (.int .i64 x) (by with_unfolding_all rfl) 3 _ (by with_unfolding_all rfl) .i64 Tryd.underlying3 gK (oK + i) (by with_unfolding_all rfl) (fun w h => HCX.out w (Behind.trM HQ25.out h)) ?_); simp only [Act.put, List.setIfInBounds_toArray, List.set_cons_zero, List.set_cons_succ])
                    | (go_big_quiet_step (exact fun _ => rfl)))
                  with_reducible refine wpQuiet_nil ?_
                  intro w3 hw3
                  have HQ3 := Lib.hid (show Behind wr w3 from hw3)
                  clear hw3
                  go_wp2_with fail
                  go_roundg (i - (k2 + 1))
                  case measure => omega
                  case rel => exact ⟨k2 + 1, (y != x), by go_num, rfl, by omega, Nat.le_refl _, (show Hid _ from (show (y != x) = true by have := HNE.out; simp [this])), Behind.trM HQ2.out HQ3.out⟩
                · have hlkz2 : ¬ (k2 : Int) < (i : Int) := by omega
                  have hc2 := HCX.out wr HQ25.out
                  have HO2 := Lib.hid (HO.out.below HQ2.out)
                  have HGL2 := Lib.hid (show g11 ≤ wr.heap.size from Nat.le_trans HGL.out HQ2.out.size)
                  clear hlk2 hkk2 hk2
                  by_cases he : x = gone
                  · have hez : (x != gone) = false := by simp [he]
                    have HNX := Lib.hid (show (K.take (i + 1)).filter (fun n => decide (n ≠ gone)) = (K.take i).filter (fun n => decide (n ≠ gone)) by rw [HSN.out, if_neg (by simp [he]), List.append_nil])
                    clear he
                    go_wp2_with fail
                    go_roundg (M - (i + 1))
                    case measure => omega
                    case rel => exact ⟨i + 1, N, v, rfl, by go_num, by omega, Nat.le_refl _, by omega, (show Hid _ from by rw [HNX.out]; exact HNF.out), (show Hid _ from by rw [HNX.out]; exact HO2.out), HQ25.out, HGL2.out⟩
                  · have hez : (x != gone) = true := by simp [he]
                    have HNX := Lib.hid (show (K.take (i + 1)).filter (fun n => decide (n ≠ gone)) = (K.take i).filter (fun n => decide (n ≠ gone)) ++ [x] by rw [HSN.out, if_pos he])
                    clear he
                    go_wp2_with (first
                      | ((with_reducible refine wpList_int1 (o := ⟨some 127, _, _, _, _, _⟩) (by with_unfolding_all rfl) (.tmp 126) rfl x (by with_unfolding_all rfl) ?_); intro g127 wj hg hb hE; have HEO := Lib.hid hE; have HOj := Lib.hid (HO2.out.below hb); have HBj := Lib.hid (Behind.trM HQ25.out hb); have hgj : g11 ≤ wj.heap.size := Nat.le_trans HGL2.out hb.size; clear hg hb hE)
                      | (at_builtin; refine wpList_append_enc (enc := encN) (k := 1) rfl rfl (.tmp 122) (.tmp 127) 24 3 8 rfl _ Tryd.underlying24 info3Int rfl (by decide) g11 v N ((K.take i).filter fun n => decide (n ≠ gone)) [x] rfl HOj.out (fun _ _ => encN_len _) (fun _ _ => encN_one _) (some ⟨g127, 0, none⟩) 1 1 rfl (show 1 = [x].length from rfl) HEO.out (by unfold maxLen; simp; omega) (by simp; omega) hgj ?_; intro v127 wk hO7 hg7 hob; have HO7 := Lib.hid hO7; have HB7 := Lib.hid (show Behind w5 wk from own_below2 HOj.out HBj.out HG11.out.1 (Nat.le_trans HG11.out.1 hgj) hg7); have hgk2 : g11 ≤ wk.heap.size := Nat.le_trans hgj hg7.size; clear hO7 hg7 hob))
                    go_roundg (M - (i + 1))
                    case measure => omega
                    case rel => exact ⟨i + 1, N + 1, v127, rfl, by go_num, by omega, Nat.le_refl _, by omega, (show Hid _ from by rw [HNX.out, List.length_append, ← HNF.out]; rfl), (show Hid _ from by rw [HNX.out]; exact HO7.out), HB7.out, (show Hid _ from hgk2)⟩
        · have hltz : ¬ (i : Int) < (M : Int) := by omega
          have htl : K.take i = K := List.take_of_length_le (by have := HMM.out; omega)
          have ho := HO.out
          have hnf := HNF.out
          rw [htl] at ho hnf
          obtain ⟨A11, c11, hv11, hc11, hE11⟩ := ho.rows hnf (fun x _ => encN_len x)
          have HNF2 := Lib.hid hnf
          have HE11 := Lib.hid hE11
          have HE87 := Lib.hid (HE8.out.up HQ.out)
          have HE97 := Lib.hid (HE9.out.up HQ.out)
          have HE77 := Lib.hid (HE75.out.up HQ.out)
          have HBq := Lib.hid (Behind.trM HB5.out HQ.out)
          have hNM : N ≤ 6 := by omega
          subst hv11
          clear htl ho hnf hE11 hc11 HNF HO HGL hNi hgg hi hlt HO11 HB6 HG11 HE8 HE9 HE75 HQ HB5
          generalize wo = w7 at *
          go_wp2_with fail
          go_loopg [16] j (fun gg s16 wr => ∃ i : Nat, s16 = .int .i64 i ∧ i ≤ j ∧ j - i ≤ gg ∧ Hid (Behind w7 wr))
          case atStart => exact ⟨0, rfl, Nat.zero_le _, by omega, Behind.refl _⟩
          case round =>
            obtain ⟨i, rfl, hi, hgg, HQ⟩ := hrel
            have HBr := Lib.hid (Behind.trM HBq.out HQ.out)
            by_cases hlt : i < j
            · have hltz : (i : Int) < (j : Int) := by omega
              have i0 : (0 : Int) ≤ (i : Int) := by omega
              have hil : i < l.length := by have := HN.out; omega
              obtain ⟨gA, oA, hAA, hcA⟩ := int_cells (HE.out w0 (Behind.refl _)) hil
              have hxl := List.getElem_mem hil
              obtain ⟨x, hx⟩ : ∃ x, x = l[i] := ⟨_, rfl⟩
              rw [← hx] at hcA hxl
              have HCA := Lib.hid hcA
              have HXL := Lib.hid hxl
              have hc := HCA.out wr HBr.out
              clear hx hxl hcA
              subst hAA
              generalize wr = wo at *
              by_cases h1 : x < (1 : Int)
              · have hout : (decide (x < 1 ∨ 6 < x)) = true := by simp [h1]
                have HOUT := Lib.hid hout
                clear hout
                go_wp2_with fail
                clear hc
                go_loopg [17, 18] M (fun gg s17 s18 wr => ∃ (k : Nat) (b : Bool), s18 = .int .i64 k ∧ s17 = .bool b ∧ k ≤ M ∧ M - k ≤ gg ∧ Hid (b = (true || (K.take k).any fun y => decide (y = x))) ∧ Hid (Behind wo wr))
                case atStart => exact ⟨0, true, rfl, rfl, Nat.zero_le _, by omega, (show Hid _ from (show true = (true || (K.take 0).any fun y => decide (y = x)) from rfl)), Behind.refl _⟩
                case round =>
                  obtain ⟨k, b, rfl, rfl, hk, hkk, HA, HQ1⟩ := hrel
                  have HQ17 := Lib.hid (Behind.trM HQ.out HQ1.out)
                  have HQ10 := Lib.hid (Behind.trM HBr.out HQ1.out)
                  by_cases hlk : k < M
                  · have hlkz : (k : Int) < (M : Int) := by omega
                    have k0 : (0 : Int) ≤ (k : Int) := by omega
                    have hkl : k < K.length := by have := HMM.out; omega
                    obtain ⟨gK, oK, hAK, hcK⟩ := int_cells HE77.out hkl
                    have hst : (true || (K.take (k + 1)).any (fun y => decide (y = x))) = (b || decide (K[k] = x)) := by
                      rw [List.take_succ_eq_append_getElem hkl, List.any_append, HA.out]
                      simp
                    obtain ⟨y, hy⟩ : ∃ y, y = K[k] := ⟨_, rfl⟩
                    rw [← hy] at hcK hst
                    have HST := Lib.hid hst
                    have HCY := Lib.hid hcK
                    clear hy hst hcK
                    subst hAK
                    cases b with
                    | true =>
                      go_wp2_with fail
                      refine wp_region_class (Behind wr) (by kernel_rfl) (by kernel_rfl) (Below.refl _ _).drew ?_
                      iterate 13 (first
                        | go_big_quiet_skip
                        | (go_big_quiet_step (exact fun _ => rfl)))
                      with_reducible refine wpQuiet_nil ?_
                      intro w3 hw3
                      have HQ3 := Lib.hid (show Behind wr w3 from hw3)
                      clear hw3
                      go_wp2_with fail
                      go_roundg (M - (k + 1))
                      case measure => omega
                      case rel => exact ⟨k + 1, true, by go_num, rfl, by omega, Nat.le_refl _, (show Hid _ from (by rw [HST.out]; rfl)), Behind.trM HQ1.out HQ3.out⟩
                    | false =>
                      go_wp2_with fail
                      refine wp_region_class (Behind wr) (by kernel_rfl) (by kernel_rfl) (Below.refl _ _).drew ?_
                      iterate 13 (first
                        | go_big_quiet_skip
                        | ((with_reducible refine wpQuiet_load1 (.int .i64 y) (by with_unfolding_all rfl) 3 _ (by with_unfolding_all rfl) .i64 Tryd.underlying3 gK (oK + k) (by with_unfolding_all rfl) (fun w h => HCY.out w (Behind.trM HQ17.out h)) ?_); simp only [Act.put, List.setIfInBounds_toArray, List.set_cons_zero, List.set_cons_succ])
                        | ((with_reducible refine wpQuiet_load1 (.int .i64 x) (by with_unfolding_all rfl) 3 _ (by with_unfolding_all rfl) .i64 Tryd.underlying3 gA (oA + i) (by with_unfolding_all rfl) (fun w h => HCA.out w (Behind.trM HQ10.out h)) ?_); simp only [Act.put, List.setIfInBounds_toArray, List.set_cons_zero, List.set_cons_succ])
                        | (go_big_quiet_step (exact fun _ => rfl)))
                      with_reducible refine wpQuiet_nil ?_
                      intro w3 hw3
                      have HQ3 := Lib.hid (show Behind wr w3 from hw3)
                      clear hw3
                      go_wp2_with fail
                      go_roundg (M - (k + 1))
                      case measure => omega
                      case rel => exact ⟨k + 1, (y == x), by go_num, rfl, by omega, Nat.le_refl _, (show Hid _ from (by rw [HST.out]; rfl)), Behind.trM HQ1.out HQ3.out⟩
                  · have hlkz : ¬ (k : Int) < (M : Int) := by omega
                    have hb : b = true := by
                      rw [HA.out, List.take_of_length_le (by have := HMM.out; omega)]
                      have ho := HOUT.out
                      rfl
                    subst hb
                    clear hkk HA hk
                    go_wp2_with fail
                    go_roundg (j - (i + 1))
                    case measure => omega
                    case rel => exact ⟨i + 1, by go_num, by omega, Nat.le_refl _, HQ17.out⟩
              · by_cases h6 : (6 : Int) < x
                · have hout : (decide (x < 1 ∨ 6 < x)) = true := by simp [h6]
                  have HOUT := Lib.hid hout
                  clear hout
                  go_wp2_with fail
                  clear hc
                  go_loopg [17, 18] M (fun gg s17 s18 wr => ∃ (k : Nat) (b : Bool), s18 = .int .i64 k ∧ s17 = .bool b ∧ k ≤ M ∧ M - k ≤ gg ∧ Hid (b = (true || (K.take k).any fun y => decide (y = x))) ∧ Hid (Behind wo wr))
                  case atStart => exact ⟨0, true, rfl, rfl, Nat.zero_le _, by omega, (show Hid _ from (show true = (true || (K.take 0).any fun y => decide (y = x)) from rfl)), Behind.refl _⟩
                  case round =>
                    obtain ⟨k, b, rfl, rfl, hk, hkk, HA, HQ1⟩ := hrel
                    have HQ17 := Lib.hid (Behind.trM HQ.out HQ1.out)
                    have HQ10 := Lib.hid (Behind.trM HBr.out HQ1.out)
                    by_cases hlk : k < M
                    · have hlkz : (k : Int) < (M : Int) := by omega
                      have k0 : (0 : Int) ≤ (k : Int) := by omega
                      have hkl : k < K.length := by have := HMM.out; omega
                      obtain ⟨gK, oK, hAK, hcK⟩ := int_cells HE77.out hkl
                      have hst : (true || (K.take (k + 1)).any (fun y => decide (y = x))) = (b || decide (K[k] = x)) := by
                        rw [List.take_succ_eq_append_getElem hkl, List.any_append, HA.out]
                        simp
                      obtain ⟨y, hy⟩ : ∃ y, y = K[k] := ⟨_, rfl⟩
                      rw [← hy] at hcK hst
                      have HST := Lib.hid hst
                      have HCY := Lib.hid hcK
                      clear hy hst hcK
                      subst hAK
                      cases b with
                      | true =>
                        go_wp2_with fail
                        refine wp_region_class (Behind wr) (by kernel_rfl) (by kernel_rfl) (Below.refl _ _).drew ?_
                        iterate 13 (first
                          | go_big_quiet_skip
                          | (go_big_quiet_step (exact fun _ => rfl)))
                        with_reducible refine wpQuiet_nil ?_
                        intro w3 hw3
                        have HQ3 := Lib.hid (show Behind wr w3 from hw3)
                        clear hw3
                        go_wp2_with fail
                        go_roundg (M - (k + 1))
                        case measure => omega
                        case rel => exact ⟨k + 1, true, by go_num, rfl, by omega, Nat.le_refl _, (show Hid _ from (by rw [HST.out]; rfl)), Behind.trM HQ1.out HQ3.out⟩
                      | false =>
                        go_wp2_with fail
                        refine wp_region_class (Behind wr) (by kernel_rfl) (by kernel_rfl) (Below.refl _ _).drew ?_
                        iterate 13 (first
                          | go_big_quiet_skip
                          | ((with_reducible refine wpQuiet_load1 (.int .i64 y) (by with_unfolding_all rfl) 3 _ (by with_unfolding_all rfl) .i64 Tryd.underlying3 gK (oK + k) (by with_unfolding_all rfl) (fun w h => HCY.out w (Behind.trM HQ17.out h)) ?_); simp only [Act.put, List.setIfInBounds_toArray, List.set_cons_zero, List.set_cons_succ])
                          | ((with_reducible refine wpQuiet_load1 (.int .i64 x) (by with_unfolding_all rfl) 3 _ (by with_unfolding_all rfl) .i64 Tryd.underlying3 gA (oA + i) (by with_unfolding_all rfl) (fun w h => HCA.out w (Behind.trM HQ10.out h)) ?_); simp only [Act.put, List.setIfInBounds_toArray, List.set_cons_zero, List.set_cons_succ])
                          | (go_big_quiet_step (exact fun _ => rfl)))
                        with_reducible refine wpQuiet_nil ?_
                        intro w3 hw3
                        have HQ3 := Lib.hid (show Behind wr w3 from hw3)
                        clear hw3
                        go_wp2_with fail
                        go_roundg (M - (k + 1))
                        case measure => omega
                        case rel => exact ⟨k + 1, (y == x), by go_num, rfl, by omega, Nat.le_refl _, (show Hid _ from (by rw [HST.out]; rfl)), Behind.trM HQ1.out HQ3.out⟩
                    · have hlkz : ¬ (k : Int) < (M : Int) := by omega
                      have hb : b = true := by
                        rw [HA.out, List.take_of_length_le (by have := HMM.out; omega)]
                        have ho := HOUT.out
                        rfl
                      subst hb
                      clear hkk HA hk
                      go_wp2_with fail
                      go_roundg (j - (i + 1))
                      case measure => omega
                      case rel => exact ⟨i + 1, by go_num, by omega, Nat.le_refl _, HQ17.out⟩
                · have hout : (decide (x < 1 ∨ 6 < x)) = false := by simp [h1, h6]
                  have HOUT := Lib.hid hout
                  clear hout
                  go_wp2_with fail
                  clear hc
                  go_loopg [17, 18] M (fun gg s17 s18 wr => ∃ (k : Nat) (b : Bool), s18 = .int .i64 k ∧ s17 = .bool b ∧ k ≤ M ∧ M - k ≤ gg ∧ Hid (b = (false || (K.take k).any fun y => decide (y = x))) ∧ Hid (Behind wo wr))
                  case atStart => exact ⟨0, false, rfl, rfl, Nat.zero_le _, by omega, (show Hid _ from (show false = (false || (K.take 0).any fun y => decide (y = x)) from rfl)), Behind.refl _⟩
                  case round =>
                    obtain ⟨k, b, rfl, rfl, hk, hkk, HA, HQ1⟩ := hrel
                    have HQ17 := Lib.hid (Behind.trM HQ.out HQ1.out)
                    have HQ10 := Lib.hid (Behind.trM HBr.out HQ1.out)
                    by_cases hlk : k < M
                    · have hlkz : (k : Int) < (M : Int) := by omega
                      have k0 : (0 : Int) ≤ (k : Int) := by omega
                      have hkl : k < K.length := by have := HMM.out; omega
                      obtain ⟨gK, oK, hAK, hcK⟩ := int_cells HE77.out hkl
                      have hst : (false || (K.take (k + 1)).any (fun y => decide (y = x))) = (b || decide (K[k] = x)) := by
                        rw [List.take_succ_eq_append_getElem hkl, List.any_append, HA.out]
                        simp
                      obtain ⟨y, hy⟩ : ∃ y, y = K[k] := ⟨_, rfl⟩
                      rw [← hy] at hcK hst
                      have HST := Lib.hid hst
                      have HCY := Lib.hid hcK
                      clear hy hst hcK
                      subst hAK
                      cases b with
                      | true =>
                        go_wp2_with fail
                        refine wp_region_class (Behind wr) (by kernel_rfl) (by kernel_rfl) (Below.refl _ _).drew ?_
                        iterate 13 (first
                          | go_big_quiet_skip
                          | (go_big_quiet_step (exact fun _ => rfl)))
                        with_reducible refine wpQuiet_nil ?_
                        intro w3 hw3
                        have HQ3 := Lib.hid (show Behind wr w3 from hw3)
                        clear hw3
                        go_wp2_with fail
                        go_roundg (M - (k + 1))
                        case measure => omega
                        case rel => exact ⟨k + 1, true, by go_num, rfl, by omega, Nat.le_refl _, (show Hid _ from (by rw [HST.out]; rfl)), Behind.trM HQ1.out HQ3.out⟩
                      | false =>
                        go_wp2_with fail
                        refine wp_region_class (Behind wr) (by kernel_rfl) (by kernel_rfl) (Below.refl _ _).drew ?_
                        iterate 13 (first
                          | go_big_quiet_skip
                          | ((with_reducible refine wpQuiet_load1 (.int .i64 y) (by with_unfolding_all rfl) 3 _ (by with_unfolding_all rfl) .i64 Tryd.underlying3 gK (oK + k) (by with_unfolding_all rfl) (fun w h => HCY.out w (Behind.trM HQ17.out h)) ?_); simp only [Act.put, List.setIfInBounds_toArray, List.set_cons_zero, List.set_cons_succ])
                          | ((with_reducible refine wpQuiet_load1 (.int .i64 x) (by with_unfolding_all rfl) 3 _ (by with_unfolding_all rfl) .i64 Tryd.underlying3 gA (oA + i) (by with_unfolding_all rfl) (fun w h => HCA.out w (Behind.trM HQ10.out h)) ?_); simp only [Act.put, List.setIfInBounds_toArray, List.set_cons_zero, List.set_cons_succ])
                          | (go_big_quiet_step (exact fun _ => rfl)))
                        with_reducible refine wpQuiet_nil ?_
                        intro w3 hw3
                        have HQ3 := Lib.hid (show Behind wr w3 from hw3)
                        clear hw3
                        go_wp2_with fail
                        go_roundg (M - (k + 1))
                        case measure => omega
                        case rel => exact ⟨k + 1, (y == x), by go_num, rfl, by omega, Nat.le_refl _, (show Hid _ from (by rw [HST.out]; rfl)), Behind.trM HQ1.out HQ3.out⟩
                    · have hlkz : ¬ (k : Int) < (M : Int) := by omega
                      have hb : b = true := by
                        rw [HA.out, List.take_of_length_le (by have := HMM.out; omega)]
                        have ho := HOUT.out
                        rw [Bool.false_or, List.any_eq_true]
                        have hx1 : x ∈ K := by
                          rw [HKK.out]
                          exact mem_walk.2 ⟨HXL.out, by have := of_decide_eq_false ho; omega, by have := of_decide_eq_false ho; omega⟩
                        exact ⟨x, hx1, by simp⟩
                      subst hb
                      clear hkk HA hk
                      go_wp2_with fail
                      go_roundg (j - (i + 1))
                      case measure => omega
                      case rel => exact ⟨i + 1, by go_num, by omega, Nat.le_refl _, HQ17.out⟩
            · have hltz : ¬ (i : Int) < (j : Int) := by omega
              have HC8 := Lib.hid (show ∀ W, Behind w7 W → Calls Tryd.prog 13 #[.agg (u8s key).toArray, .slice A8 N8 c8] W fun e w' => ∃ A' c', e = .returned (.slice A' M c') ∧ M ≤ c' ∧ EncIn encN 1 w' A' K ∧ Below W.heap.size W w' from fun W hW => by
                have h := walk_any key HKL.out A8 c8 N8 (twice l.reverse) W HN8.out (HE87.out.up hW) hNb8 (HW.out W (Behind.trM HBq.out hW)) M (by rw [HWK8.out]; exact HMM.out)
                rw [HWK8.out] at h
                exact h)
              have HC9 := Lib.hid (show ∀ W, Behind w7 W → Calls Tryd.prog 13 #[.agg (u8s key).toArray, .slice A9 N9 c9] W fun e w' => ∃ A' c', e = .returned (.slice A' N c') ∧ N ≤ c' ∧ EncIn encN 1 w' A' (K.filter fun n => decide (n ≠ gone)) ∧ Below W.heap.size W w' from fun W hW => by
                have h := walk_any key HKL.out A9 c9 N9 (l.reverse.filter fun n => decide (n ≠ gone)) W HN9.out (HE97.out.up hW) hNb9 (HW.out W (Behind.trM HBq.out hW)) N (by rw [HWK9.out]; exact HNF2.out)
                rw [HWK9.out] at h
                exact h)
              have HI8 := Lib.hid (show ∀ (P Q : Option Addr) (p q : Nat) W, EncIn encN 1 W P K → EncIn encN 1 W Q K → Calls Tryd.prog 12 #[.slice P M p, .slice Q M q] W fun e w' => e = .returned (.bool true) ∧ Below W.heap.size W w' from fun P Q p q W hP hQ => by
                have h := ints_any P Q p q K K M M W HMM.out HMM.out hP hQ (by omega) (by omega)
                rw [decide_eq_true rfl] at h
                exact h)
              have HI9 := Lib.hid (show ∀ (P Q : Option Addr) (p q : Nat) W, EncIn encN 1 W P (K.filter fun n => decide (n ≠ gone)) → EncIn encN 1 W Q (K.filter fun n => decide (n ≠ gone)) → Calls Tryd.prog 12 #[.slice P N p, .slice Q N q] W fun e w' => e = .returned (.bool true) ∧ Below W.heap.size W w' from fun P Q p q W hP hQ => by
                have h := ints_any P Q p q _ _ N N W HNF2.out HNF2.out hP hQ (by omega) (by omega)
                rw [decide_eq_true rfl] at h
                exact h)
              go_wp2_with (first
                | (with_reducible refine wpList_loadW (o := ⟨some 167, _, _, _, _, _⟩) (by with_unfolding_all rfl) 23 (.tmp 3) rfl gq3 0 (by with_unfolding_all rfl) (u8s key) _ (HSK.out _ (HBr.out)) HU.out (by with_unfolding_all rfl) HI.out ?_)
                | (go_at_call 13; (with_reducible refine Calls.mono (HC8.out _ HQ.out) ?_); rintro e wy ⟨Ay, cy, rfl, _, hE, hb⟩; have HEy := Lib.hid hE; have HBy := Lib.hid (Behind.trM HQ.out hb); have HE7y := Lib.hid (HE77.out.up HBy.out); clear hE hb)
                | (go_at_call 12; (with_reducible refine Calls.mono (HI8.out _ _ _ _ wy HEy.out HE7y.out) ?_); rintro e wx ⟨rfl, hb⟩; have HBx := Lib.hid (Behind.trM HBy.out hb); clear hb)
                | (with_reducible refine wpList_loadW (o := ⟨some 173, _, _, _, _, _⟩) (by with_unfolding_all rfl) 23 (.tmp 3) rfl gq3 0 (by with_unfolding_all rfl) (u8s key) _ (HSK.out _ (Behind.trM HBq.out HBx.out)) HU.out (by with_unfolding_all rfl) HI.out ?_)
                | (go_at_call 13; (with_reducible refine Calls.mono (HC9.out _ HBx.out) ?_); rintro e wv ⟨Av, cv, rfl, _, hE, hb⟩; have HEv := Lib.hid hE; have HBv := Lib.hid (Behind.trM HBx.out hb); have HE1v := Lib.hid (HE11.out.up HBv.out); clear hE hb)
                | (go_at_call 12; (with_reducible refine Calls.mono (HI9.out _ _ _ _ wv HEv.out HE1v.out) ?_); rintro e wz ⟨rfl, hb⟩; have HBz := Lib.hid (Behind.trM HBv.out hb); clear hb))
              go_ret
              exact ⟨by first | rfl | simp, Behind.trM HB0.out (Behind.trM HBq.out HBz.out)⟩
end Go.Proofs.YtdfeiajdmmlllaaDoor
