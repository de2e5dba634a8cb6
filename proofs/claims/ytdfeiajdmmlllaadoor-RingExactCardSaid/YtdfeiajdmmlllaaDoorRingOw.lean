/- RingOwners: the walk. -/
import Derived.Test.YtdfeiajdmmlllaaDoorRingK
import Derived.Deep.DeepCutAuto
namespace Go.Proofs.YtdfeiajdmmlllaaDoor
open Go.Proofs Stab Go.Shelf Go.RowKit Go.Lib Go.Sort

theorem filt_snoc (l : List Int) (g : Int) (i : Nat) (hi : i < l.length) : (l.take (i + 1)).filter (fun n => decide (n ≠ g)) = (l.take i).filter (fun n => decide (n ≠ g)) ++ (if l[i] ≠ g then [l[i]] else []) := by
  rw [List.take_succ_eq_append_getElem hi, List.filter_append]
  congr 1
  by_cases h : l[i] = g <;> simp [h]
/-- a cell of a row of integers -/
theorem int_cell {w W : World} {A : Option Addr} {l : List Int} (h : EncIn encN 1 w A l) (hW : Behind w W) {i : Nat} (hi : i < l.length) : ∃ g off, A = some ⟨g, off, none⟩ ∧ g < w.heap.size ∧ W.cell? ⟨g, off + i, none⟩ = some (.int .i64 l[i]) := by
  obtain ⟨g, off, h1, h2, h3⟩ := h.at hi
  refine ⟨g, off, h1, h2, ?_⟩
  have h4 := h3 0 _ rfl
  rw [Nat.mul_one, Nat.add_zero] at h4
  exact (hW.cell (p := ⟨g, off + i, none⟩) h2).trans h4
set_option maxRecDepth 100000 in
set_option maxHeartbeats 8000000 in
theorem owners_any (key : List UInt8) (hk : key.length = 32) (A0 : Option Addr) (c0 : Nat) (l : List Int) (gone : Int) (w : World) (hE0 : EncIn encN 1 w A0 l) (_ : l.length ≤ c0) (hm0 : c0 ≤ maxLen) (_ : A0 = none → c0 = 0) (hwd : Tab w 0 (u32s Sha.words)) :
    Calls Tryd.prog 6 #[.agg (u8s key).toArray, .slice A0 l.length c0, .int .i64 gone] w fun e w' => e = .returned (.bool true) ∧ Below w.heap.size w w' := by
  have hn0 : l.length ≤ 9223372036854775807 := by unfold maxLen at hm0; omega
  have h1 : At (w.alloc (.cells (u8s key).toArray 23)) w.heap.size 23 (u8s key) := At.new w _ _
  have hb : Behind w (w.alloc (.cells (u8s key).toArray 23)) := (Below.refl _ _).alloc (Nat.le_refl _) _
  have HW := Lib.hid (show ∀ W, Behind (w.alloc (.cells (u8s key).toArray 23)) W → Tab W 0 (u32s Sha.words) from fun W h => hwd.below (Behind.trM hb h) hwd.lt)
  have HE := Lib.hid (show ∀ W, Behind (w.alloc (.cells (u8s key).toArray 23)) W → EncIn encN 1 W A0 l from fun W h => hE0.up (Behind.trM hb h))
  have HSK := Lib.hid (show ∀ W, Behind (w.alloc (.cells (u8s key).toArray 23)) W → W.rangeAt w.heap.size 0 (u8s key) from fun W h => (h1.below h h1.lt).all)
  have HB0 := Lib.hid hb
  have HKL := Lib.hid hk
  have HU := Lib.hid Tryd.underlying23
  have HI := Lib.hid (infoDg13 hk)
  obtain ⟨n, hn⟩ : ∃ n, n = l.length := ⟨_, rfl⟩
  rw [← hn] at hn0 ⊢
  have HN := Lib.hid hn
  clear hE0 hm0 hwd h1 hb hk hn
  go_enter Tryd.func6, Tryd.ntmps6
  go_upto_region 1 with fail
  obtain ⟨gq3, hgq3⟩ : ∃ g, g = w.heap.size := ⟨_, rfl⟩
  rw [← hgq3] at HSK ⊢
  clear hgq3
  generalize w.alloc (.cells (u8s key).toArray 23) = w0 at HW HE HSK HB0 ⊢
  have HAW := Lib.hid (awake13_any w0 (HW.out w0 (Behind.refl _)))
  go_upto_region 3 with (first
    | (go_at_call 7; (with_reducible refine Calls.mono HAW.out ?_); rintro e w1 ⟨rfl, hb⟩; have HB1 := Lib.hid (show Behind w0 w1 from hb); clear hb))
  by_cases h60 : 60 < n
  · have hz : (60 : Int) < (n : Int) := by omega
    go_wp2_with fail
    go_ret
    exact ⟨rfl, Behind.trM HB0.out HB1.out⟩
  have hz60 : ¬ (60 : Int) < (n : Int) := by omega
  obtain ⟨K, hK⟩ : ∃ K, K = walkK key l := ⟨_, rfl⟩
  obtain ⟨M, hM⟩ : ∃ M, M = K.length := ⟨_, rfl⟩
  have hM6 : M ≤ 6 := by rw [hM, hK]; exact walk_len _ _
  have HWK := Lib.hid (show ∀ W, Behind w0 W → Calls Tryd.prog 13 #[.agg (u8s key).toArray, .slice A0 n c0] W fun e w' => ∃ A' c', e = .returned (.slice A' M c') ∧ M ≤ c' ∧ EncIn encN 1 w' A' K ∧ Below W.heap.size W w' from fun W hW => by rw [hK] at hM ⊢; exact walk_any key HKL.out A0 c0 n l W HN.out (HE.out W hW) (by omega) (HW.out W hW) M hM)
  have HKK := Lib.hid hK
  have HMM := Lib.hid hM
  clear hK hM
  obtain ⟨O, hO⟩ : ∃ O, O = ownsK key l := ⟨_, rfl⟩
  obtain ⟨m, hm⟩ : ∃ m, m = O.length := ⟨_, rfl⟩
  have hOK : O = K.take 2 := by rw [hO, HKK.out]; rfl
  have hmM : m = min 2 M := by rw [hm, hOK, List.length_take, ← HMM.out]
  have HOW := Lib.hid (show ∀ W, Behind w0 W → Calls Tryd.prog 15 #[.agg (u8s key).toArray, .slice A0 n c0] W fun e w' => ∃ A' c', e = .returned (.slice A' m c') ∧ m ≤ c' ∧ EncIn encN 1 w' A' O ∧ Below W.heap.size W w' from fun W hW => by rw [hO] at hm ⊢; exact owns_any key HKL.out A0 c0 n l W HN.out (HE.out W hW) (by omega) (HW.out W hW) m hm)
  have HIN := Lib.hid (show ∀ (P Q : Option Addr) (p q : Nat) W, EncIn encN 1 W P O → EncIn encN 1 W Q O → Calls Tryd.prog 12 #[.slice P m p, .slice Q m q] W fun e w' => e = .returned (.bool true) ∧ Below W.heap.size W w' from fun P Q p q W hP hQ => by
    have h := ints_any P Q p q O O m m W hm hm hP hQ (by omega) (by omega)
    rw [decide_eq_true rfl] at h
    exact h)
  have HOO := Lib.hid hO
  have HOK := Lib.hid hOK
  have HMO := Lib.hid hm
  have HMM2 := Lib.hid hmM
  have hm6 : m ≤ 2 := by omega
  clear hO hOK hm hmM
  go_upto_region 7 with (first
    | (with_reducible refine wpList_loadW (o := ⟨some 17, _, _, _, _, _⟩) (by with_unfolding_all rfl) 23 (.tmp 3) rfl gq3 0 (by with_unfolding_all rfl) (u8s key) _ (HSK.out _ (HB1.out)) HU.out (by with_unfolding_all rfl) HI.out ?_)
    | (go_at_call 13; (with_reducible refine Calls.mono (HWK.out w1 HB1.out) ?_); rintro e w2 ⟨A7, c7, rfl, hc, hE, hb⟩; have HE72 := Lib.hid hE; have HC7 := Lib.hid hc; have HB2 := Lib.hid (Behind.trM HB1.out hb); clear hc hE hb)
    | (with_reducible refine wpList_loadW (o := ⟨some 20, _, _, _, _, _⟩) (by with_unfolding_all rfl) 23 (.tmp 3) rfl gq3 0 (by with_unfolding_all rfl) (u8s key) _ (HSK.out _ (HB2.out)) HU.out (by with_unfolding_all rfl) HI.out ?_)
    | (go_at_call 15; (with_reducible refine Calls.mono (HOW.out w2 HB2.out) ?_); rintro e w3 ⟨A8, c8, rfl, hc, hE, hb⟩; have HE8 := Lib.hid hE; have HE7 := Lib.hid (HE72.out.up hb); have HB3 := Lib.hid (Behind.trM HB2.out hb); clear hc hE hb))
  have HT := Lib.hid (show EncIn encN 1 w3 (cutA A7 0 c7 1) O from by
    have h := EncIn.take (m := 2) (c := c7) (HE7.out) (by have := HMM.out; have := HC7.out; omega)
    rw [← HOK.out] at h
    exact h)
  have HCM := Lib.hid (show m ≤ c7 by have := HC7.out; have := HMM2.out; omega)
  go_cut [30] (fun s30 wx => s30 = .bool false ∧ Hid (Behind w3 wx))
  case first =>
    by_cases h2 : 2 ≤ M
    · obtain rfl : m = 2 := by have := HMM2.out; omega
      have hz : (2 : Int) ≤ (M : Int) := by omega
      have hz2 : min (2 : Int) (M : Int) = 2 := by omega
      go_wp2_with (first
        | (with_reducible refine wpList_to13 (.slice (cutA A7 0 c7 1) 2 c7) w3 rfl (exec_slice_ints (.tmp 24) (.tmp 27) rfl A7 M c7 2 (by with_unfolding_all rfl) (by with_unfolding_all rfl) HCM.out _) ?_)
        | (go_at_call 12; (with_reducible refine Calls.mono (HIN.out _ _ _ _ w3 HE8.out HT.out) ?_); rintro e w4 ⟨rfl, hb⟩; have HB34 := Lib.hid (show Behind w3 w4 from hb); clear hb))
      go_meet
      exact ⟨rfl, HB34.out⟩
    · obtain rfl : m = M := by have := HMM2.out; omega
      have hz : ¬ (2 : Int) ≤ (m : Int) := by omega
      have hz2 : min (2 : Int) (m : Int) = (m : Int) := by omega
      go_wp2_with (first
        | (with_reducible refine wpList_to13 (.slice (cutA A7 0 c7 1) m c7) w3 rfl (exec_slice_ints (.tmp 24) (.tmp 27) rfl A7 m c7 m (by with_unfolding_all rfl) (by with_unfolding_all rfl) HCM.out _) ?_)
        | (go_at_call 12; (with_reducible refine Calls.mono (HIN.out _ _ _ _ w3 HE8.out HT.out) ?_); rintro e w4 ⟨rfl, hb⟩; have HB34 := Lib.hid (show Behind w3 w4 from hb); clear hb))
      go_meet
      exact ⟨rfl, HB34.out⟩
  case rest =>
    obtain ⟨rfl, HB34⟩ := hcut
    have HE84 := Lib.hid (HE8.out.up HB34.out)
    have HB4 := Lib.hid (Behind.trM HB3.out HB34.out)
    clear HT HCM HIN HWK HOW HE8 HE7 HE72 HAW HB34
    generalize wc = w4 at *
    go_wp2_with fail
    go_loopg [9] m (fun gg s9 wr => ∃ i : Nat, s9 = .int .i64 i ∧ i ≤ m ∧ m - i ≤ gg ∧ Hid (∀ j (h : j < O.length), j < i → O[j] ≠ gone) ∧ wr = w4)
    case atStart => exact ⟨0, rfl, Nat.zero_le _, by omega, (show Hid _ from fun j h hj => absurd hj (Nat.not_lt_zero _)), rfl⟩
    case round =>
      obtain ⟨i, rfl, hi, hgg, HA, rfl⟩ := hrel
      by_cases hlt : i < m
      · have hltz : (i : Int) < (m : Int) := by omega
        have i0 : (0 : Int) ≤ (i : Int) := by omega
        have hil : i < O.length := by have := HMO.out; omega
        obtain ⟨gX, oX, hAX, _, hc⟩ := int_cell HE84.out (Behind.refl wr) hil
        obtain ⟨x, hx⟩ : ∃ x, x = O[i] := ⟨_, rfl⟩
        rw [← hx] at hc
        have HX := Lib.hid hx
        clear hx
        subst hAX
        by_cases he : x = gone
        · have hez : (x == gone) = true := by simp [he]
          clear he
          go_wp2_with fail
          go_ret
          exact ⟨by first | rfl | simp, Behind.trM HB0.out HB4.out⟩
        · have hez : (x == gone) = false := by simp [he]
          have HNE := Lib.hid he
          clear he
          go_wp2_with fail
          go_roundg (m - (i + 1))
          case measure => omega
          case rel => exact ⟨i + 1, by go_num, by omega, Nat.le_refl _, (show Hid _ from fun j h hj => by
            rcases Nat.lt_or_eq_of_le (Nat.le_of_lt_succ hj) with h2 | h2
            · exact HA.out j h h2
            · subst h2
              rw [← HX.out]
              exact HNE.out), rfl⟩
      · have hltz : ¬ (i : Int) < (m : Int) := by omega
        have hnot : gone ∉ O := fun hm => by
          obtain ⟨j, hj, e⟩ := List.getElem_of_mem hm
          exact HA.out j hj (by have := HMO.out; omega) e
        have HNOT := Lib.hid hnot
        clear hnot HA hgg hi hlt
        generalize wr = w4 at *
        go_upto_region 15 with (first
          | ((with_reducible refine wpList_none13 (o := ⟨some 43, _, _, _, _, _⟩) rfl rfl Tryd.underlying24 sizeInt ?_); intro g10 w6 hg hs hO hb; have HO10 := Lib.hid hO; have HB6 := Lib.hid (show Behind w4 w6 from hb); have HG10 := Lib.hid (show w4.heap.size ≤ g10 ∧ g10 < w6.heap.size by omega); clear hg hs hO hb))
        obtain ⟨v10, hv10⟩ : ∃ v, v = Value.slice (some ⟨g10, 0, none⟩) 0 0 := ⟨_, rfl⟩
        rw [← hv10] at HO10 ⊢
        clear hv10
        go_wp2_with fail
        go_loopg [10, 11] n (fun gg s10 s11 wr => ∃ (i N : Nat) (v : Value), v = s10 ∧ s11 = .int .i64 i ∧ i ≤ n ∧ n - i ≤ gg ∧ N ≤ i ∧ Hid (N = ((l.take i).filter fun n => decide (n ≠ gone)).length) ∧ Hid (Own wr g10 3 1 v N (((l.take i).filter fun n => decide (n ≠ gone)).flatMap encN)) ∧ Hid (Behind w4 wr) ∧ Hid (g10 ≤ wr.heap.size))
        case atStart => exact ⟨0, 0, v10, rfl, rfl, Nat.zero_le _, by omega, Nat.le_refl _, (show Hid _ from rfl), HO10.out, HB6.out, (show Hid _ from Nat.le_of_lt HG10.out.2)⟩
        case round =>
          obtain ⟨i, N, v, hv, rfl, hi, hgg, hNi, HNF, HO, HQ, HGL⟩ := hrel
          subst hv
          by_cases hlt : i < n
          · have hltz : (i : Int) < (n : Int) := by omega
            have i0 : (0 : Int) ≤ (i : Int) := by omega
            have hil : i < l.length := by have := HN.out; omega
            obtain ⟨gX, oX, hAX, _, hc⟩ := int_cell (HE.out w0 (Behind.refl _)) (Behind.trM HB4.out HQ.out) hil
            have hsn := filt_snoc l gone i hil
            obtain ⟨x, hx⟩ : ∃ x, x = l[i] := ⟨_, rfl⟩
            rw [← hx] at hc hsn
            have HSN := Lib.hid hsn
            clear hx hsn
            subst hAX
            by_cases he : x = gone
            · have hez : (x != gone) = false := by simp [he]
              have HNX := Lib.hid (show (l.take (i + 1)).filter (fun n => decide (n ≠ gone)) = (l.take i).filter (fun n => decide (n ≠ gone)) by rw [HSN.out, if_neg (by simp [he]), List.append_nil])
              clear he
              go_wp2_with fail
              go_roundg (n - (i + 1))
              case measure => omega
              case rel => exact ⟨i + 1, N, v, rfl, by go_num, by omega, Nat.le_refl _, by omega, (show Hid _ from by rw [HNX.out]; exact HNF.out), (show Hid _ from by rw [HNX.out]; exact HO.out), HQ.out, HGL.out⟩
            · have hez : (x != gone) = true := by simp [he]
              have HNX := Lib.hid (show (l.take (i + 1)).filter (fun n => decide (n ≠ gone)) = (l.take i).filter (fun n => decide (n ≠ gone)) ++ [x] by rw [HSN.out, if_pos he])
              clear he
              go_wp2_with (first
                | ((with_reducible refine wpList_int1 (o := ⟨some 61, _, _, _, _, _⟩) (by with_unfolding_all rfl) (.tmp 60) rfl x (by with_unfolding_all rfl) ?_); intro g61 wj hg hb hE; have HEO := Lib.hid hE; have HOj := Lib.hid (HO.out.below hb); have HBj := Lib.hid (Behind.trM HQ.out hb); have hgj : g10 ≤ wj.heap.size := Nat.le_trans HGL.out hb.size; clear hg hb hE)
                | (at_builtin; refine wpList_append_enc (enc := encN) (k := 1) rfl rfl (.tmp 56) (.tmp 61) 24 3 8 rfl _ Tryd.underlying24 info3Int rfl (by decide) g10 v N ((l.take i).filter fun n => decide (n ≠ gone)) [x] rfl HOj.out (fun _ _ => encN_len _) (fun _ _ => encN_one _) (some ⟨g61, 0, none⟩) 1 1 rfl (show 1 = [x].length from rfl) HEO.out (by unfold maxLen; simp; omega) (by simp; omega) hgj ?_; intro v62 wk hO7 hg7 hob; have HO7 := Lib.hid hO7; have HB7 := Lib.hid (show Behind w4 wk from own_below2 HOj.out HBj.out HG10.out.1 (Nat.le_trans HG10.out.1 hgj) hg7); have hgk2 : g10 ≤ wk.heap.size := Nat.le_trans hgj hg7.size; clear hO7 hg7 hob))
              go_roundg (n - (i + 1))
              case measure => omega
              case rel => exact ⟨i + 1, N + 1, v62, rfl, by go_num, by omega, Nat.le_refl _, by omega, (show Hid _ from by rw [HNX.out, List.length_append, ← HNF.out]; rfl), (show Hid _ from by rw [HNX.out]; exact HO7.out), HB7.out, (show Hid _ from hgk2)⟩
          · have hltz : ¬ (i : Int) < (n : Int) := by omega
            have htl : l.take i = l := List.take_of_length_le (by have := HN.out; omega)
            have ho := HO.out
            have hnf := HNF.out
            rw [htl] at ho hnf
            obtain ⟨A10, c10, hv10, hc10, hE10⟩ := ho.rows hnf (fun x _ => encN_len x)
            have hsame : ownsK key (l.filter fun n => decide (n ≠ gone)) = O := by
              rw [HOO.out]
              refine owners_stay _ _ _ ?_
              have h := HNOT.out
              rw [HOO.out] at h
              exact h
            have HOW2 := Lib.hid (show Calls Tryd.prog 15 #[.agg (u8s key).toArray, .slice A10 N c10] wr fun e w' => ∃ A' c', e = .returned (.slice A' m c') ∧ m ≤ c' ∧ EncIn encN 1 w' A' O ∧ Below wr.heap.size wr w' from by
              have h := owns_any key HKL.out A10 c10 N _ wr hnf hE10 (by omega) (HW.out wr (Behind.trM HB4.out HQ.out)) m (by rw [hsame]; exact HMO.out)
              rw [hsame] at h
              exact h)
            have HE8r := Lib.hid (HE84.out.up HQ.out)
            have HIN2 := Lib.hid (show ∀ (P Q : Option Addr) (p q : Nat) W, EncIn encN 1 W P O → EncIn encN 1 W Q O → Calls Tryd.prog 12 #[.slice P m p, .slice Q m q] W fun e w' => e = .returned (.bool true) ∧ Below W.heap.size W w' from fun P Q p q W hP hQ => by
              have h := ints_any P Q p q O O m m W HMO.out HMO.out hP hQ (by omega) (by omega)
              rw [decide_eq_true rfl] at h
              exact h)
            have HBr := Lib.hid (Behind.trM HB4.out HQ.out)
            subst hv10
            clear ho hnf hE10 hsame htl hc10 HO HNF HGL
            go_wp2_with (first
              | (with_reducible refine wpList_loadW (o := ⟨some 63, _, _, _, _, _⟩) (by with_unfolding_all rfl) 23 (.tmp 3) rfl gq3 0 (by with_unfolding_all rfl) (u8s key) _ (HSK.out _ (HBr.out)) HU.out (by with_unfolding_all rfl) HI.out ?_)
              | (go_at_call 15; (with_reducible refine Calls.mono HOW2.out ?_); rintro e wy ⟨Ay, cy, rfl, _, hE, hb⟩; have HEy := Lib.hid hE; have HE8y := Lib.hid (HE8r.out.up hb); have HBy := Lib.hid (show Behind wr wy from hb); clear hE hb)
              | (go_at_call 12; (with_reducible refine Calls.mono (HIN2.out _ _ _ _ wy HEy.out HE8y.out) ?_); rintro e wz ⟨rfl, hb⟩; have HBz := Lib.hid (Behind.trM HBy.out hb); clear hb))
            go_ret
            exact ⟨by first | rfl | simp, Behind.trM HB0.out (Behind.trM HBr.out HBz.out)⟩
end Go.Proofs.YtdfeiajdmmlllaaDoor
