/- RingNear: the walk. -/
import Derived.Test.YtdfeiajdmmlllaaDoorRingSt
namespace Go.Proofs.YtdfeiajdmmlllaaDoor
open Go.Proofs Stab Go.Shelf Go.RowKit Go.Lib Go.Sort

def bls (u : List Bool) : List Value := u.map Value.bool
theorem bls_cell {w : World} {g : Nat} {u : List Bool} (h : w.rangeAt g 0 (bls u)) {i : Nat} (hi : i < u.length) : w.cell? ⟨g, i, none⟩ = some (.bool u[i]) := by
  have h2 := h i (.bool u[i]) (by unfold bls; rw [List.getElem?_map, List.getElem?_eq_getElem hi]; rfl)
  rw [Nat.zero_add] at h2
  exact h2
/-- which nodes are up -/
def upB (u : List Bool) (n : Int) : Bool := u.getD (n - 1).toNat false
def upN (u : List Bool) (k : Nat) : List Int := (six.take k).filter (upB u)
theorem upN_succ (u : List Bool) (hu : u.length = 6) (k : Nat) (hk : k < 6) : upN u (k + 1) = upN u k ++ (if u[k] = true then [(k : Int) + 1] else []) := by
  have h6 : k < six.length := hk
  have e : six[k] = (k : Int) + 1 := by
    match k, hk with
    | 0, _ | 1, _ | 2, _ | 3, _ | 4, _ | 5, _ => rfl
    | k + 6, h => omega
  unfold upN
  rw [List.take_succ_eq_append_getElem h6, List.filter_append, e]
  congr 1
  have e2 : upB u ((k : Int) + 1) = u[k] := by
    unfold upB
    have : ((k : Int) + 1 - 1).toNat = k := by omega
    rw [this, List.getD_eq_getElem?_getD, List.getElem?_eq_getElem (by omega)]
    rfl
  rw [← e2]
  cases h : upB u ((k : Int) + 1) <;> simp [h]
theorem upN_len (u : List Bool) (k : Nat) : (upN u k).length ≤ k := by
  unfold upN
  refine Nat.le_trans (List.length_filter_le _ _) ?_
  rw [List.length_take]
  omega
theorem walk_ups (far : Int → Nat) (u : List Bool) : (walkR far (upN u 6)).length = (upN u 6).length := by
  unfold walkR
  rw [S_len]
  congr 1
  unfold nodesOf
  have e : upN u 6 = six.filter (upB u) := rfl
  rw [e]
  refine List.filter_congr fun n hn => ?_
  rw [Bool.eq_iff_iff, decide_eq_true_eq, List.mem_filter]
  exact ⟨fun h => h.2, fun h => ⟨hn, h⟩⟩
theorem run_gtrU (a b : Int) (h : a ≤ b) (w : World) : (binOp .gtr 27 (.int .u64 a) (.int .u64 b)).run Tryd.prog w = .ok (.bool false) w := by
  go_simp
theorem run_eqlU (a b : Int) (h : a ≠ b) (w : World) : (binOp .eql 27 (.int .u64 a) (.int .u64 b)).run Tryd.prog w = .ok (.bool false) w := by
  go_simp
theorem run_eqlU1 (a : Int) (w : World) : (binOp .eql 27 (.int .u64 a) (.int .u64 a)).run Tryd.prog w = .ok (.bool true) w := by
  go_simp
theorem run_gtrI (a b : Int) (h : a ≤ b) (w : World) : (binOp .gtr 3 (.int .i64 a) (.int .i64 b)).run Tryd.prog w = .ok (.bool false) w := by
  go_simp
theorem run_guardU (w : World) (op : BinOp) (x y : Operand) (a b : Int) : (eqGuard op 27 x y (.int .u64 a) (.int .u64 b)).run Tryd.prog w = .ok () w := by
  unfold eqGuard
  go_simp
theorem run_guardI (w : World) (op : BinOp) (x y : Operand) (a b : Int) : (eqGuard op 3 x y (.int .i64 a) (.int .i64 b)).run Tryd.prog w = .ok () w := by
  unfold eqGuard
  go_simp
set_option maxRecDepth 100000 in
set_option maxHeartbeats 8000000 in
theorem rnear_any (key : List UInt8) (hk : key.length = 32) (u : List Bool) (hu : u.length = 6) (w : World) (hwd : Tab w 0 (u32s Sha.words)) :
    Calls Tryd.prog 5 #[.agg (u8s key).toArray, .agg (bls u).toArray] w fun e w' => e = .returned (.bool true) ∧ Below w.heap.size w w' := by
  have h1 : At (w.alloc (.cells (u8s key).toArray 23)) w.heap.size 23 (u8s key) := At.new w _ _
  have hba : Behind w (w.alloc (.cells (u8s key).toArray 23)) := (Below.refl _ _).alloc (Nat.le_refl _) _
  obtain ⟨gq2, hgq2⟩ : ∃ g, g = w.heap.size := ⟨_, rfl⟩
  obtain ⟨wa, hwa⟩ : ∃ x, x = w.alloc (.cells (u8s key).toArray 23) := ⟨_, rfl⟩
  rw [← hwa] at h1 hba
  have h2 : At (wa.alloc (.cells (bls u).toArray 37)) wa.heap.size 37 (bls u) := At.new wa _ _
  have hbb : Behind wa (wa.alloc (.cells (bls u).toArray 37)) := (Below.refl _ _).alloc (Nat.le_refl _) _
  obtain ⟨gq3, hgq3⟩ : ∃ g, g = wa.heap.size := ⟨_, rfl⟩
  obtain ⟨w0, hw0⟩ : ∃ x, x = wa.alloc (.cells (bls u).toArray 37) := ⟨_, rfl⟩
  rw [← hw0] at h2 hbb
  rw [← hgq3] at h2
  rw [← hgq2] at h1
  have HW := Lib.hid (show ∀ W, Behind w0 W → Tab W 0 (u32s Sha.words) from fun W h => hwd.below (Behind.trM (Behind.trM hba hbb) h) hwd.lt)
  have HSK := Lib.hid (show ∀ W, Behind w0 W → W.rangeAt gq2 0 (u8s key) from fun W h => (h1.below (Behind.trM hbb h) h1.lt).all)
  have HSU := Lib.hid (show ∀ W, Behind w0 W → W.rangeAt gq3 0 (bls u) from fun W h => (h2.below h h2.lt).all)
  have HB0 := Lib.hid (show Behind w w0 from Behind.trM hba hbb)
  have HKL := Lib.hid hk
  have HUL := Lib.hid hu
  have HU := Lib.hid Tryd.underlying23
  have HI := Lib.hid (infoDg13 hk)
  clear hwd h1 h2 hba hbb hk hu
  go_enter Tryd.func5, Tryd.ntmps5
  go_upto_region 1 with fail
  have h23 : gq2 + 1 = gq3 := by rw [hgq3, hwa, hgq2]; exact (Array.size_push _).symm
  rw [← hwa, ← hgq2, h23, ← hw0]
  clear h23 hgq2 hgq3 hwa hw0
  have HAW := Lib.hid (awake13_any w0 (HW.out w0 (Behind.refl _)))
  go_upto_region 4 with (first
    | (go_at_call 7; (with_reducible refine Calls.mono HAW.out ?_); rintro e w1 ⟨rfl, hb⟩; have HB1 := Lib.hid (show Behind w0 w1 from hb); clear hb)
    | ((with_reducible refine wpList_none13 (o := ⟨some 19, _, _, _, _, _⟩) rfl rfl Tryd.underlying24 sizeInt ?_); intro g5 w2 hg hs hO hb; have HO5 := Lib.hid hO; have HB2 := Lib.hid (Behind.trM HB1.out hb); have HG5 := Lib.hid (show w0.heap.size ≤ g5 ∧ g5 < w2.heap.size by have := HB1.out.size; omega); clear hg hs hO hb))
  obtain ⟨v5, hv5⟩ : ∃ v, v = Value.slice (some ⟨g5, 0, none⟩) 0 0 := ⟨_, rfl⟩
  rw [← hv5] at HO5 ⊢
  clear hv5 HAW
  go_wp2_with fail
  go_loopg [5, 6] 6 (fun gg s5 s6 wr => ∃ (k N : Nat) (v : Value), v = s5 ∧ s6 = .int .i64 ((k : Int) + 1) ∧ k ≤ 6 ∧ 6 - k ≤ gg ∧ N ≤ k ∧ Hid (N = (upN u k).length) ∧ Hid (Own wr g5 3 1 v N ((upN u k).flatMap encN)) ∧ Hid (Behind w0 wr) ∧ Hid (g5 ≤ wr.heap.size))
  case atStart => exact ⟨0, 0, v5, rfl, rfl, Nat.zero_le _, by omega, Nat.le_refl _, (show Hid _ from rfl), HO5.out, HB2.out, (show Hid _ from Nat.le_of_lt HG5.out.2)⟩
  case round =>
    obtain ⟨k, N, v, hv, rfl, hk, hgg, hNk, HNF, HO, HQ, HGL⟩ := hrel
    subst hv
    by_cases hlt : k < 6
    · have hltz : (k : Int) + 1 ≤ 6 := by omega
      have k0 : (0 : Int) ≤ (k : Int) := by omega
      have k6 : (k : Int) < 6 := by omega
      have hw1 : IntKind.i64.wrap ((k : Int) + 1 - 1) = (k : Int) := by rw [show (k : Int) + 1 - 1 = (k : Int) by omega]; exact IntWalk.i64_in _ (by omega)
      have hw2 : IntKind.i64.wrap ((k : Int) + 1 + 1) = (k : Int) + 1 + 1 := IntWalk.i64_in _ (by omega)
      have hkl : k < u.length := by have := HUL.out; omega
      have hc := bls_cell (HSU.out wr HQ.out) hkl
      have hsn := upN_succ u HUL.out k hlt
      obtain ⟨b, hb⟩ : ∃ b, b = u[k] := ⟨_, rfl⟩
      rw [← hb] at hc hsn
      have HSN := Lib.hid hsn
      clear hb hsn
      cases b with
      | false =>
        have HNX := Lib.hid (show upN u (k + 1) = upN u k by rw [HSN.out, if_neg (by simp), List.append_nil])
        go_wp2_with fail
        go_roundg (6 - (k + 1))
        case measure => omega
        case rel => exact ⟨k + 1, N, v, rfl, by go_num, by omega, Nat.le_refl _, by omega, (show Hid _ from by rw [HNX.out]; exact HNF.out), (show Hid _ from by rw [HNX.out]; exact HO.out), HQ.out, HGL.out⟩
      | true =>
        have HNX := Lib.hid (show upN u (k + 1) = upN u k ++ [(k : Int) + 1] by rw [HSN.out, if_pos rfl])
        go_wp2_with (first
          | ((with_reducible refine wpList_int1 (o := ⟨some 30, _, _, _, _, _⟩) (by with_unfolding_all rfl) (.tmp 29) rfl ((k : Int) + 1) (by with_unfolding_all rfl) ?_); intro g30 wj hg hb hE; have HEO := Lib.hid hE; have HOj := Lib.hid (HO.out.below hb); have HBj := Lib.hid (Behind.trM HQ.out hb); have hgj : g5 ≤ wj.heap.size := Nat.le_trans HGL.out hb.size; clear hg hb hE)
          | (at_builtin; refine wpList_append_enc (enc := encN) (k := 1) rfl rfl (.tmp 28) (.tmp 30) 24 3 8 rfl _ Tryd.underlying24 info3Int rfl (by decide) g5 v N (upN u k) [(k : Int) + 1] rfl HOj.out (fun _ _ => encN_len _) (fun _ _ => encN_one _) (some ⟨g30, 0, none⟩) 1 1 rfl rfl HEO.out (by unfold maxLen; simp; omega) (by simp; omega) hgj ?_; intro v31 wk hO7 hg7 hob; have HO7 := Lib.hid hO7; have HB7 := Lib.hid (show Behind w0 wk from own_below2 HOj.out HBj.out HG5.out.1 (Nat.le_trans HG5.out.1 hgj) hg7); have hgk2 : g5 ≤ wk.heap.size := Nat.le_trans hgj hg7.size; clear hO7 hg7 hob))
        go_roundg (6 - (k + 1))
        case measure => omega
        case rel => exact ⟨k + 1, N + 1, v31, rfl, by go_num, by omega, Nat.le_refl _, by omega, (show Hid _ from by rw [HNX.out, List.length_append, ← HNF.out]; rfl), (show Hid _ from by rw [HNX.out]; exact HO7.out), HB7.out, (show Hid _ from hgk2)⟩
    · have hltz : ¬ ((k : Int) + 1 ≤ 6) := by omega
      have hk6 : k = 6 := by omega
      subst hk6
      obtain ⟨A5, c5, hv5, hc5, hE5⟩ := HO.out.rows HNF.out (fun x _ => encN_len x)
      obtain ⟨K, hK⟩ : ∃ K, K = walkK key (upN u 6) := ⟨_, rfl⟩
      have hKN : N = K.length := by rw [hK, HNF.out]; exact (walk_ups _ u).symm
      have hup := walk_up (farR key) (upN u 6)
      have hK2 : K = walkR (farR key) (upN u 6) := hK
      rw [← hK2] at hup
      have hin : ∀ x ∈ K, 1 ≤ x ∧ x ≤ 6 := fun x hx => by rw [hK2] at hx; exact (mem_walk.1 hx).2
      have HUP := Lib.hid hup
      have HIN := Lib.hid hin
      have HKN := Lib.hid hKN
      have HC5 := Lib.hid (show Calls Tryd.prog 13 #[.agg (u8s key).toArray, .slice A5 N c5] wr fun e w' => ∃ A' c', e = .returned (.slice A' N c') ∧ N ≤ c' ∧ EncIn encN 1 w' A' K ∧ Below wr.heap.size wr w' from by rw [hK] at hKN ⊢; exact walk_any key HKL.out A5 c5 N (upN u 6) wr HNF.out hE5 (by omega) (HW.out wr HQ.out) N hKN)
      obtain ⟨src, hsrc⟩ : ∃ p, p = placeR key := ⟨_, rfl⟩
      have hsl : src < 18446744073709551616 := by rw [hsrc]; exact place_lt key
      have HPL := Lib.hid (show ∀ W, Calls Tryd.prog 10 #[.agg (u8s key).toArray] W fun e w' => e = .returned (.int .u64 src) ∧ Below W.heap.size W w' from fun W => by rw [hsrc]; exact place_any key HKL.out W)
      have HSL := Lib.hid hsl
      have HSRC := Lib.hid hsrc
      have hnn : ((N : Int) != (N : Int)) = false := by simp
      have hN6 : N ≤ 6 := hNk
      subst hv5
      clear hK hKN hup hin hsrc hsl hc5 hE5 HNF HO HGL HO5 HG5 HB2 hK2 hgg hk hNk
      go_upto_region 13 with (first
        | (with_reducible refine wpList_loadW (o := ⟨some 32, _, _, _, _, _⟩) (by with_unfolding_all rfl) 23 (.tmp 2) rfl gq2 0 (by with_unfolding_all rfl) (u8s key) _ (HSK.out _ (HQ.out)) HU.out (by with_unfolding_all rfl) HI.out ?_)
        | (go_at_call 13; (with_reducible refine Calls.mono HC5.out ?_); rintro e w3 ⟨A7, c7, rfl, _, hE, hb⟩; have HE7 := Lib.hid hE; have HB3 := Lib.hid (Behind.trM HQ.out hb); clear hE hb)
        | (with_reducible refine wpList_loadW (o := ⟨some 40, _, _, _, _, _⟩) (by with_unfolding_all rfl) 23 (.tmp 2) rfl gq2 0 (by with_unfolding_all rfl) (u8s key) _ (HSK.out _ (HB3.out)) HU.out (by with_unfolding_all rfl) HI.out ?_)
        | (go_at_call 10; (with_reducible refine Calls.mono (HPL.out w3) ?_); rintro e w4 ⟨rfl, hb⟩; have HB4 := Lib.hid (Behind.trM HB3.out hb); have HB34 := Lib.hid (show Behind w3 w4 from hb); clear hb))
      clear hnn HC5 HPL HQ
      go_wp2_with fail
      go_loopg [9] N (fun gg s9 wr => ∃ i : Nat, s9 = .int .i64 i ∧ i ≤ N ∧ N - i ≤ gg ∧ Hid (Behind w4 wr))
      case atStart => exact ⟨0, rfl, Nat.zero_le _, by omega, Behind.refl _⟩
      case round =>
        obtain ⟨i, rfl, hi, hgg, HQ⟩ := hrel
        generalize wr = wo at *
        by_cases hlt : i + 1 < N
        · have hltz : (i : Int) + 1 < (N : Int) := by omega
          have hltz2 : (i : Int) < (N : Int) := by omega
          have i0 : (0 : Int) ≤ (i : Int) := by omega
          have i1 : (0 : Int) ≤ (i : Int) + 1 := by omega
          have hil : i < K.length := by have := HKN.out; omega
          have hil1 : i + 1 < K.length := by have := HKN.out; omega
          obtain ⟨gK, oK, hAK, hcK⟩ := int_row HE7.out (by omega)
          have hca := hcK i hil
          have hcb := hcK (i + 1) hil1
          have hab := List.pairwise_iff_getElem.1 HUP.out i (i + 1) hil hil1 (Nat.lt_succ_self _)
          have hma := HIN.out _ (List.getElem_mem hil)
          have hmb := HIN.out _ (List.getElem_mem hil1)
          obtain ⟨xa, hxa⟩ : ∃ x, x = K[i] := ⟨_, rfl⟩
          obtain ⟨xb, hxb⟩ : ∃ x, x = K[i + 1] := ⟨_, rfl⟩
          rw [← hxa] at hca hab hma
          rw [← hxb] at hcb hab hmb
          have HCA := Lib.hid hca
          have HCB := Lib.hid hcb
          have HAB := Lib.hid hab
          have HPA := Lib.hid (show ∀ (k : Nat) W, k < 8 → Behind w4 W → Calls Tryd.prog 8 #[.int .i64 xa, .int .i64 k] W fun e w' => e = .returned (.tuple #[.int .u64 (pointR xa k), .int .i64 0]) ∧ Below W.heap.size W w' from fun k W hk hW => point_good xa k hma (by omega) W (HW.out W (Behind.trM HB4.out hW)))
          have HPB := Lib.hid (show ∀ (k : Nat) W, k < 8 → Behind w4 W → Calls Tryd.prog 8 #[.int .i64 xb, .int .i64 k] W fun e w' => e = .returned (.tuple #[.int .u64 (pointR xb k), .int .i64 0]) ∧ Below W.heap.size W w' from fun k W hk hW => point_good xb k hmb (by omega) W (HW.out W (Behind.trM HB4.out hW)))
          have HGA := Lib.hid (show ∀ k : Nat, IntKind.u64.wrap ((pointR xa k : Int) - (src : Int)) = ((gapR src xa k : Nat) : Int) from fun k => gap_wrap src xa k HSL.out)
          have HGB := Lib.hid (show ∀ k : Nat, IntKind.u64.wrap ((pointR xb k : Int) - (src : Int)) = ((gapR src xb k : Nat) : Int) from fun k => gap_wrap src xb k HSL.out)
          clear hxa hxb hca hcb hab hma hmb hcK
          subst hAK
          go_wp2_with fail
          go_loopg [10, 11, 12] 8 (fun gg s10 s11 s12 wr => ∃ k p q : Nat, s10 = .int .u64 p ∧ s11 = .int .u64 q ∧ s12 = .int .i64 k ∧ k ≤ 8 ∧ 8 - k ≤ gg ∧ Hid (p = nearK src xa k) ∧ Hid (q = nearK src xb k) ∧ Hid (Behind w4 wr))
          case atStart => exact ⟨0, 18446744073709551615, 18446744073709551615, rfl, rfl, rfl, Nat.zero_le _, by omega, (show Hid _ from rfl), (show Hid _ from rfl), HQ.out⟩
          case round =>
            obtain ⟨k, p, q, rfl, rfl, rfl, hk, hkk, HN1, HN2, HQ1⟩ := hrel
            by_cases hlk : k < 8
            · have hlkz : (k : Int) < 8 := by omega
              have HPK := Lib.hid (HPA.out k wr hlk HQ1.out)
              have HPM := Lib.hid (show ∀ W, Behind w4 W → _ from fun W h => HPB.out k W hlk h)
              have hg1 := HGA.out k
              have hg2 := HGB.out k
              have hx1 := nearK_succ src xa k
              have hx2 := nearK_succ src xb k
              obtain ⟨pa, hpa⟩ : ∃ p, p = pointR xa k := ⟨_, rfl⟩
              obtain ⟨ga, hga⟩ : ∃ g, g = gapR src xa k := ⟨_, rfl⟩
              obtain ⟨pb, hpb⟩ : ∃ p, p = pointR xb k := ⟨_, rfl⟩
              obtain ⟨gb, hgb⟩ : ∃ g, g = gapR src xb k := ⟨_, rfl⟩
              rw [← hpa] at hg1 HPK
              rw [← hpb] at hg2 HPM
              rw [← hga] at hg1 hx1
              rw [← hgb] at hg2 hx2
              rw [← HN1.out] at hx1
              rw [← HN2.out] at hx2
              have HX1 := Lib.hid hx1
              have HX2 := Lib.hid hx2
              have hc1 := HCA.out wr (Behind.trM HB34.out HQ1.out)
              clear hpa hga hpb hgb hx1 hx2 HN1 HN2
              by_cases hl1 : p ≤ ga
              · have hz1 : (p : Int) ≤ (ga : Int) := by omega
                have hm1 : min (p : Int) (ga : Int) = (p : Int) := by omega
                have HM1 := Lib.hid (show p = nearK src xa (k + 1) by rw [HX1.out]; omega)
                by_cases hl2 : q ≤ gb
                · have hz2 : (q : Int) ≤ (gb : Int) := by omega
                  have hm2 : min (q : Int) (gb : Int) = (q : Int) := by omega
                  have HM2 := Lib.hid (show q = nearK src xb (k + 1) by rw [HX2.out]; omega)
                  go_wp2_with (first
                    | (go_at_call 8; (with_reducible refine Calls.mono HPK.out ?_); rintro e wx ⟨rfl, hb⟩; have HBx := Lib.hid (show Behind w4 wx from Behind.trM HQ1.out hb); have hc2 := HCB.out wx (Behind.trM HB34.out HBx.out); clear hb)
                    | (go_at_call 8; (with_reducible refine Calls.mono (HPM.out wx HBx.out) ?_); rintro e wy ⟨rfl, hb⟩; have HBy := Lib.hid (show Behind w4 wy from Behind.trM HBx.out hb); clear hb))
                  go_roundg (8 - (k + 1))
                  case measure => omega
                  case rel => exact ⟨k + 1, p, q, rfl, rfl, by go_num, by omega, Nat.le_refl _, HM1.out, HM2.out, HBy.out⟩
                · have hz2 : ¬ (q : Int) ≤ (gb : Int) := by omega
                  have hm2 : min (q : Int) (gb : Int) = (gb : Int) := by omega
                  have HM2 := Lib.hid (show gb = nearK src xb (k + 1) by rw [HX2.out]; omega)
                  go_wp2_with (first
                    | (go_at_call 8; (with_reducible refine Calls.mono HPK.out ?_); rintro e wx ⟨rfl, hb⟩; have HBx := Lib.hid (show Behind w4 wx from Behind.trM HQ1.out hb); have hc2 := HCB.out wx (Behind.trM HB34.out HBx.out); clear hb)
                    | (go_at_call 8; (with_reducible refine Calls.mono (HPM.out wx HBx.out) ?_); rintro e wy ⟨rfl, hb⟩; have HBy := Lib.hid (show Behind w4 wy from Behind.trM HBx.out hb); clear hb))
                  go_roundg (8 - (k + 1))
                  case measure => omega
                  case rel => exact ⟨k + 1, p, gb, rfl, rfl, by go_num, by omega, Nat.le_refl _, HM1.out, HM2.out, HBy.out⟩
              · have hz1 : ¬ (p : Int) ≤ (ga : Int) := by omega
                have hm1 : min (p : Int) (ga : Int) = (ga : Int) := by omega
                have HM1 := Lib.hid (show ga = nearK src xa (k + 1) by rw [HX1.out]; omega)
                by_cases hl2 : q ≤ gb
                · have hz2 : (q : Int) ≤ (gb : Int) := by omega
                  have hm2 : min (q : Int) (gb : Int) = (q : Int) := by omega
                  have HM2 := Lib.hid (show q = nearK src xb (k + 1) by rw [HX2.out]; omega)
                  go_wp2_with (first
                    | (go_at_call 8; (with_reducible refine Calls.mono HPK.out ?_); rintro e wx ⟨rfl, hb⟩; have HBx := Lib.hid (show Behind w4 wx from Behind.trM HQ1.out hb); have hc2 := HCB.out wx (Behind.trM HB34.out HBx.out); clear hb)
                    | (go_at_call 8; (with_reducible refine Calls.mono (HPM.out wx HBx.out) ?_); rintro e wy ⟨rfl, hb⟩; have HBy := Lib.hid (show Behind w4 wy from Behind.trM HBx.out hb); clear hb))
                  go_roundg (8 - (k + 1))
                  case measure => omega
                  case rel => exact ⟨k + 1, ga, q, rfl, rfl, by go_num, by omega, Nat.le_refl _, HM1.out, HM2.out, HBy.out⟩
                · have hz2 : ¬ (q : Int) ≤ (gb : Int) := by omega
                  have hm2 : min (q : Int) (gb : Int) = (gb : Int) := by omega
                  have HM2 := Lib.hid (show gb = nearK src xb (k + 1) by rw [HX2.out]; omega)
                  go_wp2_with (first
                    | (go_at_call 8; (with_reducible refine Calls.mono HPK.out ?_); rintro e wx ⟨rfl, hb⟩; have HBx := Lib.hid (show Behind w4 wx from Behind.trM HQ1.out hb); have hc2 := HCB.out wx (Behind.trM HB34.out HBx.out); clear hb)
                    | (go_at_call 8; (with_reducible refine Calls.mono (HPM.out wx HBx.out) ?_); rintro e wy ⟨rfl, hb⟩; have HBy := Lib.hid (show Behind w4 wy from Behind.trM HBx.out hb); clear hb))
                  go_roundg (8 - (k + 1))
                  case measure => omega
                  case rel => exact ⟨k + 1, ga, gb, rfl, rfl, by go_num, by omega, Nat.le_refl _, HM1.out, HM2.out, HBy.out⟩
            · have hk8 : k = 8 := by omega
              subst hk8
              have hlkz : ¬ ((8 : Nat) : Int) < 8 := by omega
              have hpq : p < q ∨ (p = q ∧ xa < xb) := by
                have h := HAB.out
                have e1 : p = farR key xa := by rw [HN1.out, HSRC.out]; rfl
                have e2 : q = farR key xb := by rw [HN2.out, HSRC.out]; rfl
                rw [e1, e2]
                exact h
              clear HN1 HN2 hkk hk
              rcases hpq with hpq | ⟨hpq, hab⟩
              · have HG1 := Lib.hid (fun w => run_gtrU (p : Int) (q : Int) (by omega) w)
                have HG2 := Lib.hid (fun w => run_eqlU (p : Int) (q : Int) (by omega) w)
                clear hpq
                go_wp2_with fail
                refine wp_region_class (Behind wr) (by kernel_rfl) (by kernel_rfl) (Below.refl _ _).drew ?_
                iterate 20 (first
                  | go_big_quiet_skip
                  | ((with_reducible refine wpQuiet_bin (by with_unfolding_all rfl) .gtr 27 _ _ _ (by with_unfolding_all rfl) (.int .u64 (p : Int)) (.int .u64 (q : Int)) (.bool false) (by with_unfolding_all rfl) (by with_unfolding_all rfl) (fun w => run_guardU w _ _ _ _ _) (fun w => HG1.out w) ?_); simp only [Act.put, List.setIfInBounds_toArray, List.set_cons_zero, List.set_cons_succ])
                  | ((with_reducible refine wpQuiet_bin (by with_unfolding_all rfl) .eql 27 _ _ _ (by with_unfolding_all rfl) (.int .u64 (p : Int)) (.int .u64 (q : Int)) (.bool false) (by with_unfolding_all rfl) (by with_unfolding_all rfl) (fun w => run_guardU w _ _ _ _ _) (fun w => HG2.out w) ?_); simp only [Act.put, List.setIfInBounds_toArray, List.set_cons_zero, List.set_cons_succ])
                  | (go_big_quiet_step (exact fun _ => rfl)))
                with_reducible refine wpQuiet_nil ?_
                intro w3q hw3
                have HQ3 := Lib.hid (show Behind wr w3q from hw3)
                clear hw3
                go_wp2_with fail
                go_roundg (N - (i + 1))
                case measure => omega
                case rel => exact ⟨i + 1, by go_num, by omega, Nat.le_refl _, Behind.trM HQ1.out HQ3.out⟩
              · subst hpq
                have HG1 := Lib.hid (fun w => run_gtrU (p : Int) (p : Int) (Int.le_refl _) w)
                have HG2 := Lib.hid (fun w => run_eqlU1 (p : Int) w)
                have HG3 := Lib.hid (fun w => run_gtrI xa xb (by omega) w)
                clear hab
                go_wp2_with fail
                refine wp_region_class (Behind wr) (by kernel_rfl) (by kernel_rfl) (Below.refl _ _).drew ?_
                iterate 20 (first
                  | go_big_quiet_skip
                  | ((with_reducible refine wpQuiet_bin (by with_unfolding_all rfl) .gtr 27 _ _ _ (by with_unfolding_all rfl) (.int .u64 (p : Int)) (.int .u64 (p : Int)) (.bool false) (by with_unfolding_all rfl) (by with_unfolding_all rfl) (fun w => run_guardU w _ _ _ _ _) (fun w => HG1.out w) ?_); simp only [Act.put, List.setIfInBounds_toArray, List.set_cons_zero, List.set_cons_succ])
                  | ((with_reducible refine wpQuiet_bin (by with_unfolding_all rfl) .eql 27 _ _ _ (by with_unfolding_all rfl) (.int .u64 (p : Int)) (.int .u64 (p : Int)) (.bool true) (by with_unfolding_all rfl) (by with_unfolding_all rfl) (fun w => run_guardU w _ _ _ _ _) (fun w => HG2.out w) ?_); simp only [Act.put, List.setIfInBounds_toArray, List.set_cons_zero, List.set_cons_succ])
                  | ((with_reducible refine wpQuiet_bin (by with_unfolding_all rfl) .gtr 3 _ _ _ (by with_unfolding_all rfl) (.int .i64 xa) (.int .i64 xb) (.bool false) (by with_unfolding_all rfl) (by with_unfolding_all rfl) (fun w => run_guardI w _ _ _ _ _) (fun w => HG3.out w) ?_); simp only [Act.put, List.setIfInBounds_toArray, List.set_cons_zero, List.set_cons_succ])
                  | ((with_reducible refine wpQuiet_load1 (.int .i64 xa) (by with_unfolding_all rfl) 3 _ (by with_unfolding_all rfl) .i64 Tryd.underlying3 gK (oK + i) (by with_unfolding_all rfl) (fun w h => HCA.out w (Behind.trM HB34.out (Behind.trM HQ1.out h))) ?_); simp only [Act.put, List.setIfInBounds_toArray, List.set_cons_zero, List.set_cons_succ])
                  | ((with_reducible refine wpQuiet_load1 (.int .i64 xb) (by with_unfolding_all rfl) 3 _ (by with_unfolding_all rfl) .i64 Tryd.underlying3 gK (oK + (i + 1)) (by with_unfolding_all rfl) (fun w h => HCB.out w (Behind.trM HB34.out (Behind.trM HQ1.out h))) ?_); simp only [Act.put, List.setIfInBounds_toArray, List.set_cons_zero, List.set_cons_succ])
                  | (go_big_quiet_step (exact fun _ => rfl)))
                with_reducible refine wpQuiet_nil ?_
                intro w3q hw3
                have HQ3 := Lib.hid (show Behind wr w3q from hw3)
                clear hw3
                go_wp2_with fail
                go_roundg (N - (i + 1))
                case measure => omega
                case rel => exact ⟨i + 1, by go_num, by omega, Nat.le_refl _, Behind.trM HQ1.out HQ3.out⟩
        · have hltz : ¬ (i : Int) + 1 < (N : Int) := by omega
          go_wp2_with fail
          go_ret
          exact ⟨rfl, Behind.trM HB0.out (Behind.trM HB4.out HQ.out)⟩
end Go.Proofs.YtdfeiajdmmlllaaDoor
