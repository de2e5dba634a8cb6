/- The reference of layer 13: Row, Place, Point, near, Walk, Owns; RingExact: the walk. -/
import Derived.Test.YtdfeiajdmmlllaaDoorQRefE
import Derived.Test.YtdfeiajdmmlllaaDoorRingNe
import Derived.Test.YtdfeiajdmmlllaaDoorMixQ
namespace Go.Proofs.YtdfeiajdmmlllaaDoor
open Go.RowKit

set_option maxRecDepth 100000 in
set_option maxHeartbeats 1000000 in
theorem refrowof_any (A : Option Addr) (c : Nat) (ss : List ByteArray) (w w0 : World) (hs : StrsIn w0 A ss) (hb0 : Below w0.heap.size w0 w) (hsm : Small ss) (hl : (Sap.row (lists ss)).length < 1099511627776) :
    Calls Tryd.prog 20 #[.slice A ss.length c] w fun e w' => e = .returned (dgV (Sha.sha (Sap.row (lists ss)))) ∧ Below w.heap.size w w' := by
  have hD : At (w.alloc (.cells #[.int .u8 0, .int .u8 0, .int .u8 0, .int .u8 0, .int .u8 0, .int .u8 0, .int .u8 0, .int .u8 0, .int .u8 0, .int .u8 0, .int .u8 0, .int .u8 0, .int .u8 0, .int .u8 0, .int .u8 0, .int .u8 0, .int .u8 0, .int .u8 0, .int .u8 0, .int .u8 0, .int .u8 0, .int .u8 0, .int .u8 0, .int .u8 0, .int .u8 0, .int .u8 0, .int .u8 0, .int .u8 0, .int .u8 0, .int .u8 0, .int .u8 0, .int .u8 0] 23)) w.heap.size 23 zero32 := At.newA _ _ rfl
  have hB1 : Below w.heap.size w (w.alloc (.cells #[.int .u8 0, .int .u8 0, .int .u8 0, .int .u8 0, .int .u8 0, .int .u8 0, .int .u8 0, .int .u8 0, .int .u8 0, .int .u8 0, .int .u8 0, .int .u8 0, .int .u8 0, .int .u8 0, .int .u8 0, .int .u8 0, .int .u8 0, .int .u8 0, .int .u8 0, .int .u8 0, .int .u8 0, .int .u8 0, .int .u8 0, .int .u8 0, .int .u8 0, .int .u8 0, .int .u8 0, .int .u8 0, .int .u8 0, .int .u8 0, .int .u8 0, .int .u8 0] 23)) := (Below.refl _ _).alloc (Nat.le_refl _) _
  have HS := Lib.hid hs
  have HB0 := Lib.hid hb0
  clear hs hb0
  go_enter Tryd.func20, Tryd.ntmps20
  go_wp2_with fail
  generalize w.alloc (.cells #[.int .u8 0, .int .u8 0, .int .u8 0, .int .u8 0, .int .u8 0, .int .u8 0, .int .u8 0, .int .u8 0, .int .u8 0, .int .u8 0, .int .u8 0, .int .u8 0, .int .u8 0, .int .u8 0, .int .u8 0, .int .u8 0, .int .u8 0, .int .u8 0, .int .u8 0, .int .u8 0, .int .u8 0, .int .u8 0, .int .u8 0, .int .u8 0, .int .u8 0, .int .u8 0, .int .u8 0, .int .u8 0, .int .u8 0, .int .u8 0, .int .u8 0, .int .u8 0] 23) = w1 at hD hB1 ⊢
  refine (refrow_any A c ss w1 w0 HS.out (HB0.out.trans (hB1.mono HB0.out.size)) hsm).mono ?_
  rintro e w2 ⟨rfl, hb2⟩
  have HD := Lib.hid (hD.below hb2 hD.lt)
  have HB := Lib.hid (hB1.trans (hb2.mono hB1.size))
  clear hD hB1 hb2
  obtain ⟨X, hX⟩ : ∃ X, X = Sap.row (lists ss) := ⟨_, rfl⟩
  rw [← hX] at hl ⊢
  have HX := Lib.hid hX
  clear hX
  go_wp2_with fail
  refine (refof_any ⟨X.toArray⟩ (by rw [str_size]; exact hl) _).mono ?_
  rintro e w3 ⟨rfl, hb3⟩
  have HD3 := Lib.hid (HD.out.below hb3 HD.out.lt)
  have HB3 := Lib.hid (HB.out.trans (hb3.mono HB.out.size))
  clear HD HB hb3
  obtain ⟨d, hd⟩ : ∃ d, d = Sha.sha X := ⟨_, rfl⟩
  rw [show Sha.sha (⟨X.toArray⟩ : ByteArray).data.toList = d by rw [hd]]
  have hdl : d.length = 32 := by rw [hd]; exact sha_length _
  have HDE := Lib.hid hd
  have HI9 := Lib.hid (show (Tryd.prog.info? 23).map (·.size) = some (u8s d).length by rw [u8s_length, hdl]; kernel_rfl)
  have HDL := Lib.hid (show (u8s d).length = zero32.length by rw [u8s_length, hdl]; rfl)
  clear hd hdl
  unfold dgV
  go_wp2_with (refine wpList_storeAll rfl 23 (.tmp 2) (.tmp 5) rfl w.heap.size rfl 23 zero32 (u8s d) HD3.out rfl HDL.out HI9.out (u8s_oneCell _) ?_; intro w9 hat9 hg9 hs9)
  refine ret_cellAll rfl rfl w.heap.size _ _ _ rfl hat9 Tryd.underlying23 rfl HI9.out ⟨by rw [HDE.out, HX.out]; rfl, ?_⟩
  exact Below.ofGrown HB3.out hg9 HB3.out.size (Nat.le_refl _)
end Go.Proofs.YtdfeiajdmmlllaaDoor
namespace Go.Proofs.YtdfeiajdmmlllaaDoor
open Go.Proofs Stab Go.Shelf Go.RowKit Go.Lib Go.Sort

set_option maxRecDepth 100000 in
set_option maxHeartbeats 1000000 in
theorem refplace_any (k : List UInt8) (hk : k.length = 32) (w : World) : Calls Tryd.prog 11 #[.agg (u8s k).toArray] w fun e w' => e = .returned (.int .u64 (placeR k)) ∧ Below w.heap.size w w' := by
  have h1 : At (w.alloc (.cells (u8s k).toArray 23)) w.heap.size 23 (u8s k) := At.new w _ _
  have hb : Below w.heap.size w (w.alloc (.cells (u8s k).toArray 23)) := (Below.refl _ _).alloc (Nat.le_refl _) _
  have H1 := Lib.hid h1
  have HB := Lib.hid hb
  have HK := Lib.hid hk
  clear h1 hb hk
  go_enter Tryd.func11, Tryd.ntmps11
  go_upto_region 1 with fail
  obtain ⟨g, hg⟩ : ∃ g, g = w.heap.size := ⟨_, rfl⟩
  rw [← hg] at H1 ⊢
  clear hg
  generalize w.alloc (.cells (u8s k).toArray 23) = w1 at H1 HB ⊢
  go_wp2_with fail
  go_loopg [3, 4] 8 (fun gg s3 s4 wr => ∃ i n : Nat, s3 = .int .u64 n ∧ s4 = .int .i64 i ∧ i ≤ 8 ∧ 8 - i ≤ gg ∧ Hid (n = placeK k i) ∧ wr = w1)
  case atStart => exact ⟨0, 0, rfl, rfl, Nat.zero_le _, by omega, (show Hid _ from rfl), rfl⟩
  case round =>
    obtain ⟨i, n, rfl, rfl, hi, hgg, HN, rfl⟩ := hrel
    by_cases hlt : i < 8
    · have hltz : (i : Int) < 8 := by omega
      have i0 : (0 : Int) ≤ (i : Int) := by omega
      have hil : i < k.length := by have := HK.out; omega
      obtain ⟨x, hx⟩ : ∃ x, x = k[i] := ⟨_, rfl⟩
      have hc : wr.cell? ⟨g, 0 + i, none⟩ = some (.int .u8 (x.toNat : Int)) := by
        rw [Nat.zero_add]
        refine H1.out.cell' ?_
        simp [u8s, hil, hx]
      rw [Nat.zero_add] at hc
      have hn7 := placeK_lt k i hlt
      rw [← HN.out] at hn7
      have hnx : n * 256 + x.toNat = placeK k (i + 1) := by rw [placeK_succ k i hil, ← HN.out, hx]
      have hx8 := x.toNat_lt
      have HNX := Lib.hid hnx
      have hw1 : IntKind.u64.wrap (256 * (n : Int)) = 256 * (n : Int) := by rw [IntKind.wrap_u64]; omega
      have hw2 : IntKind.u64.wrap (x.toNat : Int) = (x.toNat : Int) := by rw [IntKind.wrap_u64]; omega
      have hw3 : IntKind.u64.wrap (256 * (n : Int) + (x.toNat : Int)) = 256 * (n : Int) + (x.toNat : Int) := by rw [IntKind.wrap_u64]; omega
      clear hx hnx
      go_wp2_with fail
      go_roundg (8 - (i + 1))
      case measure => omega
      case rel => exact ⟨i + 1, n * 256 + x.toNat, congrArg (Value.int .u64) (by omega), by go_num, by omega, Nat.le_refl _, HNX.out, rfl⟩
    · have hi8 : i = 8 := by omega
      subst hi8
      have hltz : ¬ ((8 : Nat) : Int) < 8 := by omega
      go_wp2_with fail
      go_ret
      exact ⟨by rw [HN.out]; rfl, HB.out⟩
theorem three_in (w : World) (s t u : ByteArray) : StrsIn (w.alloc (.cells #[.string s, .string t, .string u] 9)) (some ⟨w.heap.size, 0, none⟩) [s, t, u] := fun _ =>
  ⟨_, rfl, by simp, fun i hi => by
    have h := At.new w 9 [.string s, .string t, .string u]
    have e : (⟨w.heap.size, 0, none⟩ : Addr).add i = ⟨w.heap.size, i, none⟩ := by unfold Addr.add; split <;> simp_all
    rw [e]
    refine h.cell' ?_
    match i, hi with
    | 0, _ => rfl
    | 1, _ => rfl
    | 2, _ => rfl⟩
theorem pointText_lt (node n : Int) : (pointText node n).length < 1099511627776 := by
  have l1 := Sap.num_length node
  have l2 := Sap.num_length n
  have l3 := Sap.num_length ([ringB, Sap.num node, Sap.num n].length : Nat)
  have l4 := Sap.num_length (ringB.length : Nat)
  have l5 := Sap.num_length ((Sap.num node).length : Nat)
  have l6 := Sap.num_length ((Sap.num n).length : Nat)
  have l7 : ringB.length = 4 := rfl
  unfold pointText Sap.row Sap.text
  simp only [List.length_append, List.flatMap_cons, List.flatMap_nil, List.length_nil]
  omega
theorem refrow_three (node n : Int) (w : World) :
    Calls Tryd.prog 20 #[.slice (some ⟨w.heap.size, 0, none⟩) 3 3] (w.alloc (.cells #[.string ⟨#[114, 105, 110, 103]⟩, .string ⟨(Sap.num node).toArray⟩, .string ⟨(Sap.num n).toArray⟩] 9)) fun e w' => e = .returned (.agg (u8s (Sha.sha (pointText node n))).toArray) ∧ Below w.heap.size w w' := by
  have hb1 : Below w.heap.size w (w.alloc (.cells #[.string ⟨#[114, 105, 110, 103]⟩, .string ⟨(Sap.num node).toArray⟩, .string ⟨(Sap.num n).toArray⟩] 9)) := (Below.refl _ _).alloc (Nat.le_refl _) _
  have l1 := Sap.num_length node
  have l2 := Sap.num_length n
  have e : Sap.row (lists [(⟨#[114, 105, 110, 103]⟩ : ByteArray), ⟨(Sap.num node).toArray⟩, ⟨(Sap.num n).toArray⟩]) = pointText node n := by simp [lists, pointText, ringB]
  have hsm : Small [(⟨#[114, 105, 110, 103]⟩ : ByteArray), ⟨(Sap.num node).toArray⟩, ⟨(Sap.num n).toArray⟩] := by
    refine ⟨by simp, fun s hs => ?_⟩
    simp only [List.mem_cons, List.not_mem_nil, or_false] at hs
    rcases hs with rfl | rfl | rfl
    · decide
    · show (Sap.num node).toArray.size ≤ 4096
      rw [List.size_toArray]; omega
    · show (Sap.num n).toArray.size ≤ 4096
      rw [List.size_toArray]; omega
  have h := refrowof_any (some ⟨w.heap.size, 0, none⟩) 3 _ _ _ (three_in w ⟨#[114, 105, 110, 103]⟩ ⟨(Sap.num node).toArray⟩ ⟨(Sap.num n).toArray⟩) (Below.refl _ _) hsm (by rw [e]; exact pointText_lt node n)
  rw [e] at h
  exact h.mono fun e w' ⟨he, hb2⟩ => ⟨he, hb1.trans (hb2.mono hb1.size)⟩
set_option maxRecDepth 100000 in
set_option maxHeartbeats 1000000 in
theorem refpoint_good (node n : Int) (h1 : 1 ≤ node ∧ node ≤ 6) (h2 : 0 ≤ n ∧ n < 8) (w : World) :
    Calls Tryd.prog 9 #[.int .i64 node, .int .i64 n] w fun e w' => e = .returned (.tuple #[.int .u64 (pointR node n), .int .i64 0]) ∧ Below w.heap.size w w' := by
  have n0 : ¬ n < 0 := by omega
  have n8 : ¬ 7 < n := by omega
  have m0 : ¬ node < 1 := by omega
  have m6 : ¬ 6 < node := by omega
  have HN1 := Lib.hid (show ∀ W, Calls Tryd.prog 21 #[.int .i64 node] W fun e w' => e = .returned (.string ⟨(Sap.num node).toArray⟩) ∧ Below W.heap.size W w' from fun W => by
    have h := refnum_any node.toNat (by omega) W
    rw [Int.toNat_of_nonneg (by omega)] at h
    exact h)
  have HN2 := Lib.hid (show ∀ W, Calls Tryd.prog 21 #[.int .i64 n] W fun e w' => e = .returned (.string ⟨(Sap.num n).toArray⟩) ∧ Below W.heap.size W w' from fun W => by
    have h := refnum_any n.toNat (by omega) W
    rw [Int.toNat_of_nonneg (by omega)] at h
    exact h)
  have HPL := Lib.hid (show ∀ W, Calls Tryd.prog 11 #[.agg (u8s (Sha.sha (pointText node n))).toArray] W fun e w' => e = .returned (.int .u64 (pointR node n)) ∧ Below W.heap.size W w' from fun W => refplace_any _ (sha_length13 _) W)
  clear h1 h2
  go_enter Tryd.func9, Tryd.ntmps9
  go_wp2_with (first
    | (go_at_call 21; (with_reducible refine Calls.mono (HN1.out w) ?_); rintro e w1 ⟨rfl, hb⟩; have HB1 := Lib.hid (show Behind w w1 from hb); clear hb)
    | (go_at_call 21; (with_reducible refine Calls.mono (HN2.out w1) ?_); rintro e w2 ⟨rfl, hb⟩; have HB2 := Lib.hid (show Behind w w2 from HB1.out.trans (hb.mono HB1.out.size)); clear hb)
    | (go_at_call 20; (with_reducible refine Calls.mono (refrow_three node n w2) ?_); rintro e w3 ⟨rfl, hb⟩; have HB3 := Lib.hid (show Behind w w3 from HB2.out.trans (hb.mono HB2.out.size)); clear hb)
    | (go_at_call 11; (with_reducible refine Calls.mono (HPL.out _) ?_); rintro e w4 ⟨rfl, hb⟩; have HB4 := Lib.hid (show Behind w w4 from HB3.out.trans (hb.mono HB3.out.size)); clear hb))
  go_ret2
  exact ⟨rfl, HB4.out⟩
set_option maxHeartbeats 1000000 in
theorem refpoint_bad (node n : Int) (h : ¬ ((1 ≤ node ∧ node ≤ 6) ∧ 0 ≤ n ∧ n < 8)) (w : World) :
    Calls Tryd.prog 9 #[.int .i64 node, .int .i64 n] w fun e w' => e = .returned (.tuple #[.int .u64 0, .int .i64 1]) ∧ Below w.heap.size w w' := by
  by_cases m0 : node < 1
  · clear h
    go_enter Tryd.func9, Tryd.ntmps9
    go_wp2_with fail
    go_ret2
    exact ⟨rfl, Below.refl _ _⟩
  by_cases m6 : 6 < node
  · clear h
    go_enter Tryd.func9, Tryd.ntmps9
    go_wp2_with fail
    go_ret2
    exact ⟨rfl, Below.refl _ _⟩
  by_cases n0 : n < 0
  · clear h
    go_enter Tryd.func9, Tryd.ntmps9
    go_wp2_with fail
    go_ret2
    exact ⟨rfl, Below.refl _ _⟩
  have n7 : 7 < n := by omega
  clear h
  go_enter Tryd.func9, Tryd.ntmps9
  go_wp2_with fail
  go_ret2
  exact ⟨rfl, Below.refl _ _⟩
set_option maxRecDepth 100000 in
set_option maxHeartbeats 4000000 in
theorem refnear_any (key : List UInt8) (hk : key.length = 32) (node : Int) (h1 : 1 ≤ node ∧ node ≤ 6) (w : World) :
    Calls Tryd.prog 31 #[.agg (u8s key).toArray, .int .i64 node] w fun e w' => e = .returned (.int .u64 (farR key node)) ∧ Below w.heap.size w w' := by
  obtain ⟨src, hsrc⟩ : ∃ p, p = placeR key := ⟨_, rfl⟩
  have hsl : src < 18446744073709551616 := by rw [hsrc]; exact place_lt key
  have h0 : At (w.alloc (.cells (u8s key).toArray 23)) w.heap.size 23 (u8s key) := At.new w _ _
  have hb : Behind w (w.alloc (.cells (u8s key).toArray 23)) := (Below.refl _ _).alloc (Nat.le_refl _) _
  have HSK := Lib.hid (show ∀ W, Behind (w.alloc (.cells (u8s key).toArray 23)) W → W.rangeAt w.heap.size 0 (u8s key) from fun W h => (h0.below h h0.lt).all)
  have HB0 := Lib.hid hb
  have HU := Lib.hid Tryd.underlying23
  have HI := Lib.hid (infoDg13 hk)
  have HPL := Lib.hid (show ∀ W, Calls Tryd.prog 11 #[.agg (u8s key).toArray] W fun e w' => e = .returned (.int .u64 src) ∧ Below W.heap.size W w' from fun W => by rw [hsrc]; exact refplace_any key hk W)
  have HP := Lib.hid (show ∀ (k : Nat) W, k < 8 → Calls Tryd.prog 9 #[.int .i64 node, .int .i64 k] W fun e w' => e = .returned (.tuple #[.int .u64 (pointR node k), .int .i64 0]) ∧ Below W.heap.size W w' from fun k W hk => refpoint_good node k h1 (by omega) W)
  have HG := Lib.hid (show ∀ k : Nat, IntKind.u64.wrap ((pointR node k : Int) - (src : Int)) = ((gapR src node k : Nat) : Int) from fun k => gap_wrap src node k hsl)
  have HSRC := Lib.hid hsrc
  clear h0 hb h1 hk hsrc hsl
  go_enter Tryd.func31, Tryd.ntmps31
  go_upto_region 1 with fail
  obtain ⟨gq3, hgq3⟩ : ∃ g, g = w.heap.size := ⟨_, rfl⟩
  rw [← hgq3] at HSK ⊢
  clear hgq3
  generalize w.alloc (.cells (u8s key).toArray 23) = w0 at HSK HB0 ⊢
  go_wp2_with fail
  go_loopg [5, 6] 8 (fun gg s5 s9 wr => ∃ k best : Nat, s5 = .int .u64 best ∧ s9 = .int .i64 k ∧ k ≤ 8 ∧ 8 - k ≤ gg ∧ Hid (best = nearK src node k) ∧ Hid (Behind w0 wr))
  case atStart => exact ⟨0, 18446744073709551615, rfl, rfl, Nat.zero_le _, by omega, (show Hid _ from rfl), (show Hid _ from Below.refl _ _)⟩
  case round =>
    obtain ⟨k, best, rfl, rfl, hk, hgg, HN, HB⟩ := hrel
    by_cases hlt : k < 8
    · have hltz : (k : Int) < 8 := by omega
      obtain ⟨p, hp⟩ : ∃ p, p = pointR node k := ⟨_, rfl⟩
      obtain ⟨g, hg⟩ : ∃ g, g = gapR src node k := ⟨_, rfl⟩
      have HPK := Lib.hid (HP.out k wr hlt)
      have hgw := HG.out k
      rw [← hp] at hgw HPK
      rw [← hg] at hgw
      have hnx := nearK_succ src node k
      rw [← HN.out, ← hg] at hnx
      have HNX := Lib.hid hnx
      clear hp hg hnx
      by_cases hle : g < best
      · have hz : (g : Int) < (best : Int) := by omega
        have HM := Lib.hid (show g = nearK src node (k + 1) by rw [HNX.out]; omega)
        go_wp2_with (first
          | (go_at_call 9; (with_reducible refine Calls.mono HPK.out ?_); rintro e w1 ⟨rfl, hb⟩; have HB1 := Lib.hid (show Behind w0 w1 from Behind.trM HB.out hb); clear hb)
          | (with_reducible refine wpList_loadW (o := ⟨some 20, _, _, _, _, _⟩) (by with_unfolding_all rfl) 23 (.tmp 2) rfl gq3 0 (by with_unfolding_all rfl) (u8s key) _ (HSK.out _ (HB1.out)) HU.out (by with_unfolding_all rfl) HI.out ?_)
          | (go_at_call 11; (with_reducible refine Calls.mono (HPL.out w1) ?_); rintro e w2 ⟨rfl, hb⟩; have HB2 := Lib.hid (show Behind w0 w2 from Behind.trM HB1.out hb); clear hb)
          | (with_reducible refine wpList_loadW (o := ⟨some 26, _, _, _, _, _⟩) (by with_unfolding_all rfl) 23 (.tmp 2) rfl gq3 0 (by with_unfolding_all rfl) (u8s key) _ (HSK.out _ (HB2.out)) HU.out (by with_unfolding_all rfl) HI.out ?_)
          | (go_at_call 11; (with_reducible refine Calls.mono (HPL.out w2) ?_); rintro e w3 ⟨rfl, hb⟩; have HB3 := Lib.hid (show Behind w0 w3 from Behind.trM HB2.out hb); clear hb))
        go_roundg (8 - (k + 1))
        case measure => omega
        case rel => exact ⟨k + 1, g, rfl, by go_num, by omega, Nat.le_refl _, HM.out, HB3.out⟩
      · have hz : ¬ (g : Int) < (best : Int) := by omega
        have HM := Lib.hid (show best = nearK src node (k + 1) by rw [HNX.out]; omega)
        go_wp2_with (first
          | (go_at_call 9; (with_reducible refine Calls.mono HPK.out ?_); rintro e w1 ⟨rfl, hb⟩; have HB1 := Lib.hid (show Behind w0 w1 from Behind.trM HB.out hb); clear hb)
          | (with_reducible refine wpList_loadW (o := ⟨some 20, _, _, _, _, _⟩) (by with_unfolding_all rfl) 23 (.tmp 2) rfl gq3 0 (by with_unfolding_all rfl) (u8s key) _ (HSK.out _ (HB1.out)) HU.out (by with_unfolding_all rfl) HI.out ?_)
          | (go_at_call 11; (with_reducible refine Calls.mono (HPL.out w1) ?_); rintro e w2 ⟨rfl, hb⟩; have HB2 := Lib.hid (show Behind w0 w2 from Behind.trM HB1.out hb); clear hb))
        go_roundg (8 - (k + 1))
        case measure => omega
        case rel => exact ⟨k + 1, best, rfl, by go_num, by omega, Nat.le_refl _, HM.out, HB2.out⟩
    · have hk8 : k = 8 := by omega
      subst hk8
      have hltz : ¬ ((8 : Nat) : Int) < 8 := by omega
      go_wp2_with fail
      go_ret
      exact ⟨by rw [HN.out, HSRC.out]; rfl, Behind.trM HB0.out HB.out⟩
end Go.Proofs.YtdfeiajdmmlllaaDoor
namespace Go.Proofs.YtdfeiajdmmlllaaDoor
open Go.Proofs Stab Go.Shelf Go.RowKit Go.Lib Go.Sort

def upL (S : List Int) : List Bool := (List.range 7).map fun (n : Nat) => decide ((n : Int) ∈ S)
theorem upL_len (S : List Int) : (upL S).length = 7 := by unfold upL; rw [List.length_map, List.length_range]
theorem upL_get (S : List Int) (n : Nat) (h : n < (upL S).length) : (upL S)[n] = decide ((n : Int) ∈ S) := by simp [upL]
theorem upL_ext {S T : List Int} (h : ∀ n, n ∈ S ↔ n ∈ T) : upL S = upL T := by
  unfold upL
  refine List.map_congr_left fun n _ => ?_
  rw [Bool.eq_iff_iff, decide_eq_true_eq, decide_eq_true_eq]
  exact h _
theorem upL_set {S T : List Int} (x : Nat) (b : Bool) (hx : b = decide ((x : Int) ∈ T)) (h : ∀ n, n ≠ (x : Int) → (n ∈ S ↔ n ∈ T)) : (upL S).set x b = upL T := by
  refine List.ext_getElem (by rw [List.length_set, upL_len, upL_len]) fun n h1 h2 => ?_
  rw [List.getElem_set, upL_get T n h2]
  by_cases e : x = n
  · subst e; rw [if_pos rfl]; exact hx
  · rw [if_neg e, upL_get, Bool.eq_iff_iff, decide_eq_true_eq, decide_eq_true_eq]
    exact h _ (by omega)
theorem upL_add (S : List Int) (x : Nat) : (upL S).set x true = upL (S ++ [(x : Int)]) :=
  upL_set x true (by simp) fun n hn => by simp [hn]
def farL (key : List UInt8) (S : List Int) : List Nat := (List.range 7).map fun (n : Nat) => if (n : Int) ∈ S then farR key n else 0
theorem farL_len (key : List UInt8) (S : List Int) : (farL key S).length = 7 := by unfold farL; rw [List.length_map, List.length_range]
theorem farL_get (key : List UInt8) (S : List Int) (n : Nat) (h : n < (farL key S).length) : (farL key S)[n] = if (n : Int) ∈ S then farR key n else 0 := by simp [farL]
theorem farL_ext {key : List UInt8} {S T : List Int} (h : ∀ n, n ∈ S ↔ n ∈ T) : farL key S = farL key T := by
  unfold farL
  refine List.map_congr_left fun n _ => ?_
  simp only [h]
theorem farL_add (key : List UInt8) (S : List Int) (x : Nat) : (farL key S).set x (farR key x) = farL key (S ++ [(x : Int)]) := by
  refine List.ext_getElem (by rw [List.length_set, farL_len, farL_len]) fun n h1 h2 => ?_
  rw [List.getElem_set, farL_get key _ n h2]
  by_cases e : x = n
  · subst e; rw [if_pos rfl, if_pos (by simp)]
  · rw [if_neg e, farL_get]
    have : (n : Int) ≠ (x : Int) := by omega
    simp [this]
def u64s (D : List Nat) : List Value := D.map fun (n : Nat) => Value.int .u64 (n : Int)
theorem bls_set (u : List Bool) (i : Nat) (b : Bool) : (bls u).set i (.bool b) = bls (u.set i b) := by unfold bls; rw [List.map_set]
theorem u64s_set (u : List Nat) (i : Nat) (b : Nat) : (u64s u).set i (.int .u64 (b : Int)) = u64s (u.set i b) := by unfold u64s; rw [List.map_set]
theorem up_cell {w : World} {g : Nat} {S : List Int} {t : TypeId} (h : At w g t (bls (upL S))) {i : Nat} (hi : i < 7) : w.cell? ⟨g, i, none⟩ = some (.bool (decide ((i : Int) ∈ S))) := by
  have h2 := bls_cell h.all (i := i) (by rw [upL_len]; exact hi)
  rw [upL_get] at h2
  exact h2
theorem far_cell {w : World} {g : Nat} {key : List UInt8} {S : List Int} {t : TypeId} (h : At w g t (u64s (farL key S))) {i : Nat} (hi : i < 7) (hm : (i : Int) ∈ S) : w.cell? ⟨g, i, none⟩ = some (.int .u64 (farR key i : Nat)) := by
  refine h.cell' ?_
  unfold u64s
  have hl : i < (farL key S).length := by rw [farL_len]; exact hi
  rw [List.getElem?_map, List.getElem?_eq_getElem hl, farL_get, if_pos hm]
  rfl
def inN (x : Int) : Bool := decide (1 ≤ x ∧ x ≤ 6)
theorem inN_take (l : List Int) (i : Nat) (hi : i < l.length) : (l.take (i + 1)).filter inN = (l.take i).filter inN ++ (if inN l[i] = true then [l[i]] else []) := by
  rw [List.take_succ_eq_append_getElem hi, List.filter_append]
  congr 1
  by_cases h : inN l[i] = true <;> simp [h]
/-- the nearest of the nodes below n; 0 if there is none -/
def BestR (far : Int → Nat) (R : List Int) (n best : Nat) : Prop :=
  (best = 0 ∧ ∀ m ∈ R, (n : Int) ≤ m) ∨ (0 < best ∧ (best : Int) ∈ R ∧ best < n ∧ ∀ m ∈ R, m < (n : Int) → m = (best : Int) ∨ ltN far best m)
theorem best_start (far : Int → Nat) {R : List Int} (hR : ∀ m ∈ R, 1 ≤ m ∧ m ≤ 6) : BestR far R 1 0 := .inl ⟨rfl, fun m hm => (hR m hm).1⟩
theorem best_skip {far : Int → Nat} {R : List Int} {n b : Nat} (hn : (n : Int) ∉ R) (h : BestR far R n b) : BestR far R (n + 1) b := by
  have key : ∀ m ∈ R, m < ((n + 1 : Nat) : Int) → m < (n : Int) := fun m hm hlt => by
    have : m ≠ (n : Int) := fun e => hn (e ▸ hm)
    omega
  rcases h with ⟨h1, h2⟩ | ⟨h0, h1, h2, h3⟩
  · refine .inl ⟨h1, fun m hm => ?_⟩
    have h4 := h2 m hm
    have : m ≠ (n : Int) := fun e => hn (e ▸ hm)
    omega
  · exact .inr ⟨h0, h1, by omega, fun m hm hlt => h3 m hm (key m hm hlt)⟩
theorem best_first {far : Int → Nat} {R : List Int} {n : Nat} (h0 : 0 < n) (hn : (n : Int) ∈ R) (h : BestR far R n 0) : BestR far R (n + 1) n := by
  rcases h with ⟨_, h2⟩ | ⟨h0, _⟩
  · exact .inr ⟨h0, hn, by omega, fun m hm hlt => .inl (by have := h2 m hm; omega)⟩
  · omega
theorem best_less {far : Int → Nat} {R : List Int} {n b : Nat} (h0 : 0 < b) (hn : (n : Int) ∈ R) (hf : far n < far b) (h : BestR far R n b) : BestR far R (n + 1) n := by
  rcases h with ⟨h1, _⟩ | ⟨h0, h1, h2, h3⟩
  · omega
  · refine .inr ⟨by omega, hn, by omega, fun m hm hlt => ?_⟩
    by_cases e : m = (n : Int)
    · exact .inl e
    · rcases h3 m hm (by omega) with rfl | h4
      · exact .inr (.inl hf)
      · refine .inr (.inl ?_)
        unfold ltN at h4
        omega
theorem best_keep {far : Int → Nat} {R : List Int} {n b : Nat} (h0 : 0 < b) (hf : ¬ far n < far b) (h : BestR far R n b) : BestR far R (n + 1) b := by
  rcases h with ⟨h1, _⟩ | ⟨h0, h1, h2, h3⟩
  · omega
  · refine .inr ⟨h0, h1, by omega, fun m hm hlt => ?_⟩
    by_cases e : m = (n : Int)
    · subst e
      refine .inr ?_
      unfold ltN
      omega
    · exact h3 m hm (by omega)
theorem best_end {far : Int → Nat} {R : List Int} {b : Nat} (hR : ∀ m ∈ R, 1 ≤ m ∧ m ≤ 6) (hp : R.Pairwise (ltN far)) (h : BestR far R 7 b) : (b = 0 ∧ R = []) ∨ (0 < b ∧ b < 7 ∧ ∃ R', R = (b : Int) :: R') := by
  rcases h with ⟨h1, h2⟩ | ⟨h0, h1, h2, h3⟩
  · refine .inl ⟨h1, ?_⟩
    cases R with
    | nil => rfl
    | cons a R => have := h2 a List.mem_cons_self; have := hR a List.mem_cons_self; omega
  · refine .inr ⟨h0, h2, ?_⟩
    cases R with
    | nil => cases h1
    | cons a R =>
      have ha := hR a List.mem_cons_self
      rcases h3 a List.mem_cons_self (by omega) with e | e
      · exact ⟨R, by rw [e]⟩
      · rcases List.mem_cons.1 h1 with e2 | e2
        · exact ⟨R, by rw [e2]⟩
        · exact absurd (ltN_trans e ((List.pairwise_cons.1 hp).1 _ e2)) ltN_irrefl
end Go.Proofs.YtdfeiajdmmlllaaDoor
namespace Go.Proofs.YtdfeiajdmmlllaaDoor
open Go.Proofs Stab Go.Shelf Go.RowKit Go.Lib Go.Sort

theorem zeroB7 (w : World) : (zeroValue 54).run Tryd.prog w = .ok (.agg (bls (upL [])).toArray) w := by kernel_rfl
theorem builtB7 : Tryd.prog.built 54 [] = some (bls (upL [])).toArray := by kernel_rfl
theorem infoB7 : (Tryd.prog.info? 54).map (·.size) = some (bls (upL [])).length := by kernel_rfl
theorem zeroD7 (w : World) : (zeroValue 55).run Tryd.prog w = .ok (.agg (u64s (List.replicate 7 0)).toArray) w := by kernel_rfl
theorem builtD7 : Tryd.prog.built 55 [] = some (u64s (List.replicate 7 0)).toArray := by kernel_rfl
theorem infoD7 : (Tryd.prog.info? 55).map (·.size) = some (u64s (List.replicate 7 0)).length := by kernel_rfl
theorem farL_nil (key : List UInt8) : farL key [] = List.replicate 7 0 := by simp [farL]; rfl
theorem bls_one (u : List Bool) : ∀ v ∈ bls u, v.oneCell' = true := fun v hv => by
  obtain ⟨b, _, rfl⟩ := List.mem_map.1 hv
  rfl
theorem u64s_one (u : List Nat) : ∀ v ∈ u64s u, v.oneCell' = true := fun v hv => by
  obtain ⟨b, _, rfl⟩ := List.mem_map.1 hv
  rfl
section
variable {P : Program} {ops : Array Oper} {rest : List Oper} {o : Oper} {a : Act} {w : World}
theorem run_load_boolR {ty : TypeId} (hu : P.underlying ty = some .bool) {w : World} {b off : Nat} {v : Value} (hc : w.cell? ⟨b, off, none⟩ = some v) :
    (Instr.loadAt ty (.pointer (some ⟨b, off, none⟩))).run P w = .ok v w := by
  simp [Instr.loadAt, Instr.sureAddr, loadVar, isAgg, run_underlying hu, hc]
theorem wpQuiet_loadBR {C : World → Prop} {Q : Act → Prop} (v : Value) (hw : Region.wanted o (yielded ops a.tmps) = true) (ty : TypeId) (x : Operand) (ho : o.op = .load ty x) (hu : P.underlying ty = some .bool) (b off : Nat) (hx : a.eval x = .pointer (some ⟨b, off, none⟩))
    (hS : ∀ w, C w → w.cell? ⟨b, off, none⟩ = some v) (h : wpQuiet P ops C Q rest (a.put o.dst v)) : wpQuiet P ops C Q (o :: rest) a :=
  wpQuiet_val v hw (fun w hC => by
    unfold execOp
    simp only [ho, hx, Sem.run_bind, Sem.run_pure, run_load_boolR hu (hS w hC), Result.andThen_ok]) h
theorem wpList_storeBR {Q : Exit → Act → World → Prop} (hgd : o.guard = none) (ty : TypeId) (x y : Operand) (ho : o.op = .store ty x y) (b off : Nat) (n : Bool)
    (hx : a.eval x = .pointer (some ⟨b, off, none⟩)) (hy : a.eval y = .bool n) (hi : (P.info? ty).map (·.size) = some 1) (t : TypeId) (cs : List Value) (hg : At w b t cs) (hl : off < cs.length)
    (h : ∀ w', At w' b t (cs.set off (.bool n)) → w.grownBy w' (some b) → w'.heap.size = w.heap.size → wpList P ops Q rest (a.put o.dst undef) w') : wpList P ops Q (o :: rest) a w :=
  wpList_plain hgd fun _ hK => by
    have hc : (w.cell? ⟨b, off, none⟩).isSome = true ∧ w.frozen? ⟨b, off, none⟩ = false := by
      rw [hg.cell, hg.frozen]
      simp [hl]
    unfold Oper.wp execOp
    have hr : (Instr.storeAt ty (.pointer (some ⟨b, off, none⟩)) (.bool n)).run P w = .ok () (w.setCell ⟨b, off, none⟩ (.bool n)) := by
      cases hq : P.info? ty with
      | none => simp [hq] at hi
      | some i =>
        have hs : i.size = 1 := by simpa [hq] using hi
        obtain ⟨v0, hv0⟩ := Option.isSome_iff_exists.1 hc.1
        simp [Instr.storeAt, Instr.sureAddr, storeVar, sizeOf, typeInfo, hq, hs, hv0, hc.2, Value.cells, storeCells, go_sem]
    simp only [ho, hx, hy, Sem.run_bind, Sem.run_pure, hr, Result.andThen_ok]
    exact hK _ _ (h _ (hg.set off _) (grown_setCell (World.grownBy.refl _ _) (.inl rfl) _) (by simp [World.setCell]))
end
theorem run_eqlI1 (a : Int) (w : World) : (binOp .eql 3 (.int .i64 a) (.int .i64 a)).run Tryd.prog w = .ok (.bool true) w := by
  go_simp
theorem run_eqlI (a b : Int) (h : a ≠ b) (w : World) : (binOp .eql 3 (.int .i64 a) (.int .i64 b)).run Tryd.prog w = .ok (.bool false) w := by
  go_simp
theorem run_lssU1 (a b : Int) (h : a < b) (w : World) : (binOp .lss 27 (.int .u64 a) (.int .u64 b)).run Tryd.prog w = .ok (.bool true) w := by
  go_simp
theorem run_lssU0 (a b : Int) (h : b ≤ a) (w : World) : (binOp .lss 27 (.int .u64 a) (.int .u64 b)).run Tryd.prog w = .ok (.bool false) w := by
  go_simp
/-- the reference's two tables -/
structure UpFar (key : List UInt8) (B g5 g6 : Nat) (S F : List Int) (w : World) : Prop where
  up : At w g5 54 (bls (upL S))
  far : At w g6 55 (u64s (farL key F))
  lo : B ≤ g5
  lt : g5 < g6
theorem UpFar.below {key : List UInt8} {B g5 g6 : Nat} {S F : List Int} {w w' : World} (h : UpFar key B g5 g6 S F w) (hb : Behind w w') : UpFar key B g5 g6 S F w' := ⟨h.up.below hb h.up.lt, h.far.below hb h.far.lt, h.lo, h.lt⟩
theorem UpFar.ext {key : List UInt8} {B g5 g6 : Nat} {S S' F F' : List Int} {w : World} (h : UpFar key B g5 g6 S F w) (h1 : ∀ n, n ∈ S ↔ n ∈ S') (h2 : ∀ n, n ∈ F ↔ n ∈ F') : UpFar key B g5 g6 S' F' w := ⟨by rw [← upL_ext h1]; exact h.up, by rw [← farL_ext h2]; exact h.far, h.lo, h.lt⟩
set_option maxRecDepth 100000 in
set_option maxHeartbeats 8000000 in
theorem refwalk_any (key : List UInt8) (hk : key.length = 32) (A0 : Option Addr) (c0 n : Nat) (l : List Int) (w : World) (hn : n = l.length) (hE0 : EncIn encN 1 w A0 l) (hn0 : n < 1000) (M : Nat) (hM : M = (walkK key l).length) :
    Calls Tryd.prog 14 #[.agg (u8s key).toArray, .slice A0 n c0] w fun e w' => ∃ A' c', e = .returned (.slice A' M c') ∧ M ≤ c' ∧ EncIn encN 1 w' A' (walkK key l) ∧ Below w.heap.size w w' := by
  have h1 : At (w.alloc (.cells (u8s key).toArray 23)) w.heap.size 23 (u8s key) := At.new w _ _
  have hb : Behind w (w.alloc (.cells (u8s key).toArray 23)) := (Below.refl _ _).alloc (Nat.le_refl _) _
  have HE := Lib.hid (show ∀ W, Behind (w.alloc (.cells (u8s key).toArray 23)) W → EncIn encN 1 W A0 l from fun W h => hE0.up (Behind.trM hb h))
  have HSK := Lib.hid (show ∀ W, Behind (w.alloc (.cells (u8s key).toArray 23)) W → W.rangeAt w.heap.size 0 (u8s key) from fun W h => (h1.below h h1.lt).all)
  have HB0 := Lib.hid hb
  have HU := Lib.hid Tryd.underlying23
  have HI := Lib.hid (infoDg13 hk)
  have HNR := Lib.hid (show ∀ (x : Int) W, 1 ≤ x ∧ x ≤ 6 → Calls Tryd.prog 31 #[.agg (u8s key).toArray, .int .i64 x] W fun e w' => e = .returned (.int .u64 (farR key x)) ∧ Below W.heap.size W w' from fun x W hx => refnear_any key hk x hx W)
  have HN := Lib.hid hn
  clear hE0 h1 hb hk hn
  go_enter Tryd.func14, Tryd.ntmps14
  go_upto_region 1 with fail
  obtain ⟨gq3, hgq3⟩ : ∃ g, g = w.heap.size := ⟨_, rfl⟩
  rw [← hgq3] at HSK ⊢
  clear hgq3
  generalize w.alloc (.cells (u8s key).toArray 23) = w0 at HE HSK HB0 ⊢
  go_upto_region 3 with (first
    | (with_reducible refine wpList_build (bls (upL [])).toArray (by with_unfolding_all rfl) 54 #[] rfl builtB7 ?_)
    | ((with_reducible refine wpList_allocZ (o := ⟨some 5, _, _, _, _, _⟩) 54 (bls (upL [])) rfl rfl zeroB7 ?_); intro g5 w1 hg hat hb; have HA5 := Lib.hid hat; have HB1 := Lib.hid (show Behind w0 w1 from hb); have HG5 := Lib.hid (show w0.heap.size ≤ g5 by omega); clear hat hb hg)
    | ((with_reducible refine wpList_storeAll rfl 54 (.tmp 5) (.tmp 13) rfl g5 rfl _ _ (bls (upL [])) HA5.out rfl rfl infoB7 (bls_one _) ?_); intro w2 hat hg hs; have HA52 := Lib.hid hat; have HB2 := Lib.hid (show Behind w0 w2 from Below.ofGrown HB1.out hg HB1.out.size HG5.out); clear hat hg hs)
    | (with_reducible refine wpList_build (u64s (List.replicate 7 0)).toArray (by with_unfolding_all rfl) 55 #[] rfl builtD7 ?_)
    | ((with_reducible refine wpList_allocZ (o := ⟨some 6, _, _, _, _, _⟩) 55 (u64s (List.replicate 7 0)) rfl rfl zeroD7 ?_); intro g6 w3 hg hat hb; have HA6 := Lib.hid hat; have HA53 := Lib.hid (HA52.out.below hb HA52.out.lt); have HB3 := Lib.hid (Behind.trM HB2.out hb); have HG6 := Lib.hid (show g5 < g6 by have := HA52.out.lt; omega); clear hat hb hg)
    | ((with_reducible refine wpList_storeAll rfl 55 (.tmp 6) (.tmp 14) rfl g6 rfl _ _ (u64s (List.replicate 7 0)) HA6.out rfl rfl infoD7 (u64s_one _) ?_); intro w4 hat hg hs; have HUF := Lib.hid (show UpFar key w0.heap.size g5 g6 [] [] w4 from ⟨HA53.out.grown hg (fun e => by have h1 := Option.some.inj e; have h2 := HG6.out; omega), by rw [farL_nil]; exact hat, HG5.out, HG6.out⟩); have HB4 := Lib.hid (show Behind w0 w4 from Below.ofGrown HB3.out hg HB3.out.size (by have := HG5.out; have := HG6.out; omega)); clear hat hg hs HA5 HA52 HA53 HA6))
  go_wp2_with fail
  go_loopg [7] n (fun gg s7 wr => ∃ i : Nat, s7 = .int .i64 i ∧ i ≤ n ∧ n - i ≤ gg ∧ Hid (UpFar key w0.heap.size g5 g6 ((l.take i).filter inN) ((l.take i).filter inN) wr) ∧ Hid (Behind w0 wr))
  case atStart => exact ⟨0, rfl, Nat.zero_le _, by omega, HUF.out, HB4.out⟩
  case round =>
    obtain ⟨i, rfl, hi, hgg, HUX, HQ⟩ := hrel
    by_cases hlt : i < n
    · have hltz : (i : Int) < (n : Int) := by omega
      have i0 : (0 : Int) ≤ (i : Int) := by omega
      have hil : i < l.length := by have := HN.out; omega
      obtain ⟨gA, oA, hAA, hcA⟩ := int_cells (HE.out w0 (Behind.refl _)) hil
      have hsn := inN_take l i hil
      obtain ⟨x, hx⟩ : ∃ x, x = l[i] := ⟨_, rfl⟩
      rw [← hx] at hcA hsn
      have HSN := Lib.hid hsn
      have hc := hcA wr HQ.out
      clear hx hsn hcA
      subst hAA
      by_cases x1 : x < 1
      · have z1 : ¬ (1 : Int) ≤ x := by omega
        have HNX := Lib.hid (show (l.take (i + 1)).filter inN = (l.take i).filter inN by rw [HSN.out, if_neg (by unfold inN; simp; omega), List.append_nil])
        clear x1
        go_wp2_with fail
        go_roundg (n - (i + 1))
        case measure => omega
        case rel => exact ⟨i + 1, by go_num, by omega, Nat.le_refl _, (show Hid _ from by rw [HNX.out]; exact HUX.out), HQ.out⟩
      by_cases x6 : 6 < x
      · have z1 : (1 : Int) ≤ x := by omega
        have z6 : ¬ x ≤ (6 : Int) := by omega
        have HNX := Lib.hid (show (l.take (i + 1)).filter inN = (l.take i).filter inN by rw [HSN.out, if_neg (by unfold inN; simp; omega), List.append_nil])
        clear x1 x6
        go_wp2_with fail
        go_roundg (n - (i + 1))
        case measure => omega
        case rel => exact ⟨i + 1, by go_num, by omega, Nat.le_refl _, (show Hid _ from by rw [HNX.out]; exact HUX.out), HQ.out⟩
      obtain ⟨y, rfl⟩ : ∃ y : Nat, x = (y : Int) := ⟨x.toNat, by omega⟩
      have z1 : (1 : Int) ≤ (y : Int) := by omega
      have z6 : (y : Int) ≤ (6 : Int) := by omega
      have y0 : (0 : Int) ≤ (y : Int) := by omega
      have y7 : (y : Int) < (7 : Int) := by omega
      have HNX := Lib.hid (show (l.take (i + 1)).filter inN = (l.take i).filter inN ++ [(y : Int)] by rw [HSN.out, if_pos (by unfold inN; simp; omega)])
      have hcu := up_cell HUX.out.up (i := y) (by omega)
      by_cases hin : (y : Int) ∈ (l.take i).filter inN
      · rw [decide_eq_true hin] at hcu
        have HUX2 := Lib.hid (show UpFar key w0.heap.size g5 g6 ((l.take (i + 1)).filter inN) ((l.take (i + 1)).filter inN) wr from by
          have e : ∀ n, n ∈ (l.take i).filter inN ↔ n ∈ (l.take (i + 1)).filter inN := fun n => by
            rw [HNX.out, List.mem_append, List.mem_singleton]
            exact ⟨.inl, fun h => h.elim id fun e => e ▸ hin⟩
          exact HUX.out.ext e e)
        clear hin x1 x6
        go_wp2_with fail
        go_roundg (n - (i + 1))
        case measure => omega
        case rel => exact ⟨i + 1, by go_num, by omega, Nat.le_refl _, HUX2.out, HQ.out⟩
      · rw [decide_eq_false hin] at hcu
        have hy2 : 1 ≤ (y : Int) ∧ (y : Int) ≤ 6 := ⟨z1, z6⟩
        have HNY := Lib.hid (show ∀ W, Calls Tryd.prog 31 #[.agg (u8s key).toArray, .int .i64 (y : Int)] W fun e w' => e = .returned (.int .u64 (farR key y)) ∧ Below W.heap.size W w' from fun W => HNR.out _ W hy2)
        clear hin x1 x6 hy2
        go_wp2_with (first
          | ((with_reducible refine wpList_storeBR rfl 4 (.tmp 38) (.const (.bool true)) rfl g5 y true (by with_unfolding_all rfl) (by with_unfolding_all rfl) (by kernel_rfl) 54 (bls (upL ((l.take i).filter inN))) HUX.out.up (by unfold bls; rw [List.length_map, upL_len]; omega) ?_); intro wa hat hg hs; have HAU := Lib.hid (show At wa g5 54 (bls (upL ((l.take (i + 1)).filter inN))) from by rw [bls_set, upL_add, ← HNX.out] at hat; exact hat); have HAF := Lib.hid (HUX.out.far.grown hg (fun e => by have h1 := Option.some.inj e; have h2 := HUX.out.lt; omega)); have HQa := Lib.hid (show Behind w0 wa from Below.ofGrown HQ.out hg HQ.out.size HUX.out.lo); clear hat hg hs hcu hc)
          | (with_reducible refine wpList_loadW (o := ⟨some 40, _, _, _, _, _⟩) (by with_unfolding_all rfl) 23 (.tmp 2) rfl gq3 0 (by with_unfolding_all rfl) (u8s key) _ (HSK.out _ (HQa.out)) HU.out (by with_unfolding_all rfl) HI.out ?_)
          | (go_at_call 31; (with_reducible refine Calls.mono (HNY.out wa) ?_); rintro e wb ⟨rfl, hb⟩; have HQb := Lib.hid (Behind.trM HQa.out hb); have HAUb := Lib.hid (HAU.out.below hb HAU.out.lt); have HAFb := Lib.hid (HAF.out.below hb HAF.out.lt); clear hb)
          | ((with_reducible refine wpList_store1 rfl 27 (.tmp 43) (.tmp 42) rfl g6 y .u64 (farR key y : Nat) (by with_unfolding_all rfl) (by with_unfolding_all rfl) (by kernel_rfl) 55 (u64s (farL key ((l.take i).filter inN))) HAFb.out (by unfold u64s; rw [List.length_map, farL_len]; omega) ?_); intro wc hat hg hs; have HUX2 := Lib.hid (show UpFar key w0.heap.size g5 g6 ((l.take (i + 1)).filter inN) ((l.take (i + 1)).filter inN) wc from ⟨HAUb.out.grown hg (fun e => by have h1 := Option.some.inj e; have h2 := HUX.out.lt; omega), by rw [u64s_set, farL_add, ← HNX.out] at hat; exact hat, HUX.out.lo, HUX.out.lt⟩); have HQ2 := Lib.hid (show Behind w0 wc from Below.ofGrown HQb.out hg HQb.out.size (by have h1 := HUX.out.lo; have h2 := HUX.out.lt; omega)); clear hat hg hs))
        go_roundg (n - (i + 1))
        case measure => omega
        case rel => exact ⟨i + 1, by go_num, by omega, Nat.le_refl _, HUX2.out, HQ2.out⟩
    · have hltz : ¬ (i : Int) < (n : Int) := by omega
      have htl : l.take i = l := List.take_of_length_le (by have := HN.out; omega)
      obtain ⟨W, hW⟩ : ∃ W, W = walkK key l := ⟨_, rfl⟩
      have hM2 := hM
      rw [← hW] at hM2
      have hM6 : M ≤ 6 := by rw [hM]; exact walk_len _ _
      have hmem : ∀ n, n ∈ (l.take i).filter inN ↔ n ∈ W := fun n => by
        rw [htl, hW, List.mem_filter]
        unfold walkK inN
        rw [mem_walk, decide_eq_true_eq]
      have hup := walk_up (farR key) l
      have hW2 : W = walkR (farR key) l := hW
      rw [← hW2] at hup
      have hin6 : ∀ m ∈ W, 1 ≤ m ∧ m ≤ 6 := fun m hm => by rw [hW2] at hm; exact (mem_walk.1 hm).2
      have HUY := Lib.hid (show UpFar key w0.heap.size g5 g6 (W.drop 0) W wr from HUX.out.ext hmem hmem)
      have HWK := Lib.hid hW
      have HMM := Lib.hid hM2
      have HUP := Lib.hid hup
      have HIN := Lib.hid hin6
      clear htl hW hM2 hmem hup hW2 hin6 HUX hgg hi hlt hM
      go_upto_region 11 with (first
        | ((with_reducible refine wpList_none13 (o := ⟨some 44, _, _, _, _, _⟩) rfl rfl Tryd.underlying24 sizeInt ?_); intro g9 w9 hg hs hO hb; have HO9 := Lib.hid hO; have HB9 := Lib.hid (Behind.trM HQ.out hb); have HG9 := Lib.hid (show wr.heap.size ≤ g9 ∧ g9 < w9.heap.size by omega); have HUZ := Lib.hid (HUY.out.below hb); have HG96 := Lib.hid (show g6 < g9 by have h1 := HUY.out.far.lt; omega); clear hg hs hO hb))
      obtain ⟨v9, hv9⟩ : ∃ v, v = Value.slice (some ⟨g9, 0, none⟩) 0 0 := ⟨_, rfl⟩
      rw [← hv9] at HO9 ⊢
      clear hv9
      go_wp2_with fail
      go_loopg [9, 10] 6 (fun gg s9 s10 wr => ∃ (r k : Nat) (v : Value), v = s9 ∧ s10 = .int .i64 r ∧ r ≤ 6 ∧ 6 - r ≤ gg ∧ k = min r M ∧ Hid (Own wr g9 3 1 v k ((W.take k).flatMap encN)) ∧ Hid (UpFar key w0.heap.size g5 g6 (W.drop k) W wr) ∧ Hid (Behind w0 wr) ∧ Hid (g9 ≤ wr.heap.size))
      case atStart => exact ⟨0, 0, v9, rfl, rfl, Nat.zero_le _, by omega, by omega, HO9.out, HUZ.out, HB9.out, (show Hid _ from Nat.le_of_lt HG9.out.2)⟩
      case round =>
        obtain ⟨r, k, v, hv, rfl, hr, hgg, hk, HO, HUX, HQ, HGL⟩ := hrel
        subst hv
        by_cases hlt : r < 6
        · have hltz : (r : Int) < (6 : Int) := by omega
          obtain ⟨R, hR⟩ : ∃ R, R = W.drop k := ⟨_, rfl⟩
          have hR6 : ∀ m ∈ R, 1 ≤ m ∧ m ≤ 6 := fun m hm => by rw [hR] at hm; exact HIN.out m (List.mem_of_mem_drop hm)
          have hRp : R.Pairwise (ltN (farR key)) := by rw [hR]; exact HUP.out.sublist (List.drop_sublist _ _)
          have hRW : ∀ m ∈ R, m ∈ W := fun m hm => by rw [hR] at hm; exact List.mem_of_mem_drop hm
          have HRE := Lib.hid hR
          have HR6 := Lib.hid hR6
          have HRP := Lib.hid hRp
          have HRW := Lib.hid hRW
          rw [← hR] at HUX
          clear hR hR6 hRp hRW
          generalize wr = wo at *
          go_wp2_with fail
          go_loopg [11, 12] 6 (fun gg s11 s12 wr => ∃ m b : Nat, s11 = .int .i64 b ∧ s12 = .int .i64 m ∧ 1 ≤ m ∧ m ≤ 7 ∧ 7 - m ≤ gg ∧ b ≤ 6 ∧ Hid (BestR (farR key) R m b) ∧ Hid (Behind wo wr))
          case atStart => exact ⟨1, 0, rfl, rfl, Nat.le_refl _, by omega, by omega, by omega, best_start _ HR6.out, Behind.refl _⟩
          case round =>
            obtain ⟨m, b, rfl, rfl, hm1, hm7, hmm, hb6, HBR, HQ1⟩ := hrel
            by_cases hlm : m < 7
            · have hlmz : (m : Int) < (7 : Int) := by omega
              have m0 : (0 : Int) ≤ (m : Int) := by omega
              have b0 : (0 : Int) ≤ (b : Int) := by omega
              have b7 : (b : Int) < (7 : Int) := by omega
              have HUW := Lib.hid (HUX.out.below HQ1.out)
              have HCU := Lib.hid (show ∀ W, Behind wr W → W.cell? ⟨g5, m, none⟩ = some (.bool (decide ((m : Int) ∈ R))) from fun W h => up_cell (HUW.out.below h).up hlm)
              by_cases hmR : (m : Int) ∈ R
              · have hcu := HCU.out
                rw [decide_eq_true hmR] at hcu
                have HC := Lib.hid hcu
                have HMR := Lib.hid hmR
                have HFM := Lib.hid (show ∀ W, Behind wr W → W.cell? ⟨g6, m, none⟩ = some (.int .u64 (farR key m : Nat)) from fun W h => far_cell (HUW.out.below h).far hlm (HRW.out _ HMR.out))
                clear hcu hmR HCU
                by_cases hbz : b = 0
                · subst hbz
                  have HE0 := Lib.hid (fun w => run_eqlI1 ((0 : Nat) : Int) w)
                  have HNB := Lib.hid (best_first hm1 HMR.out HBR.out)
                  go_wp2_with fail
                  refine wp_region_class (Behind wr) (by kernel_rfl) (by kernel_rfl) (Below.refl _ _).drew ?_
                  iterate 16 (first
                    | go_big_quiet_skip
                    | ((with_reducible refine wpQuiet_loadBR (.bool true) (by with_unfolding_all rfl) 4 _ (by with_unfolding_all rfl) Tryd.underlying4 g5 (m) (by with_unfolding_all rfl) (fun w h => HC.out w h) ?_); simp only [Act.put, List.setIfInBounds_toArray, List.set_cons_zero, List.set_cons_succ])
                    | ((with_reducible refine wpQuiet_bin (by with_unfolding_all rfl) .eql 3 _ _ _ (by with_unfolding_all rfl) (.int .i64 ((0 : Nat) : Int)) (.int .i64 0) (.bool true) (by with_unfolding_all rfl) (by with_unfolding_all rfl) (fun w => run_guardI w _ _ _ _ _) (fun w => HE0.out w) ?_); simp only [Act.put, List.setIfInBounds_toArray, List.set_cons_zero, List.set_cons_succ])
                    | (go_big_quiet_step (exact fun _ => rfl)))
                  with_reducible refine wpQuiet_nil ?_
                  intro w3q hw3
                  have HQ3 := Lib.hid (show Behind wr w3q from hw3)
                  clear hw3
                  go_wp2_with fail
                  go_roundg (7 - (m + 1))
                  case measure => omega
                  case rel => exact ⟨m + 1, m, rfl, by go_num, by omega, by omega, Nat.le_refl _, by omega, HNB.out, Behind.trM HQ1.out HQ3.out⟩
                · have hbR : (b : Int) ∈ R := by
                    rcases HBR.out with ⟨h, _⟩ | ⟨_, h, _⟩
                    · exact absurd h hbz
                    · exact h
                  have HE0 := Lib.hid (fun w => run_eqlI (b : Int) 0 (by omega) w)
                  have HFB := Lib.hid (show ∀ W, Behind wr W → W.cell? ⟨g6, b, none⟩ = some (.int .u64 (farR key b : Nat)) from fun W h => far_cell (HUW.out.below h).far (by omega) (HRW.out _ hbR))
                  clear hbR
                  by_cases hff : farR key m < farR key b
                  · have HEL := Lib.hid (fun w => run_lssU1 (farR key m : Nat) (farR key b : Nat) (by omega) w)
                    have HNB := Lib.hid (best_less (by omega) HMR.out hff HBR.out)
                    clear hff hbz
                    go_wp2_with fail
                    refine wp_region_class (Behind wr) (by kernel_rfl) (by kernel_rfl) (Below.refl _ _).drew ?_
                    iterate 16 (first
                      | go_big_quiet_skip
                      | ((with_reducible refine wpQuiet_loadBR (.bool true) (by with_unfolding_all rfl) 4 _ (by with_unfolding_all rfl) Tryd.underlying4 g5 (m) (by with_unfolding_all rfl) (fun w h => HC.out w h) ?_); simp only [Act.put, List.setIfInBounds_toArray, List.set_cons_zero, List.set_cons_succ])
                      | ((with_reducible refine wpQuiet_bin (by with_unfolding_all rfl) .eql 3 _ _ _ (by with_unfolding_all rfl) (.int .i64 ((b : Nat) : Int)) (.int .i64 0) (.bool false) (by with_unfolding_all rfl) (by with_unfolding_all rfl) (fun w => run_guardI w _ _ _ _ _) (fun w => HE0.out w) ?_); simp only [Act.put, List.setIfInBounds_toArray, List.set_cons_zero, List.set_cons_succ])
                      | ((with_reducible refine wpQuiet_load1 (.int .u64 (farR key m : Nat)) (by with_unfolding_all rfl) 27 _ (by with_unfolding_all rfl) .u64 Tryd.underlying27 g6 (m) (by with_unfolding_all rfl) (fun w h => HFM.out w h) ?_); simp only [Act.put, List.setIfInBounds_toArray, List.set_cons_zero, List.set_cons_succ])
                      | ((with_reducible refine wpQuiet_load1 (.int .u64 (farR key b : Nat)) (by with_unfolding_all rfl) 27 _ (by with_unfolding_all rfl) .u64 Tryd.underlying27 g6 (b) (by with_unfolding_all rfl) (fun w h => HFB.out w h) ?_); simp only [Act.put, List.setIfInBounds_toArray, List.set_cons_zero, List.set_cons_succ])
                      | ((with_reducible refine wpQuiet_bin (by with_unfolding_all rfl) .lss 27 _ _ _ (by with_unfolding_all rfl) (.int .u64 ((farR key m : Nat) : Int)) (.int .u64 ((farR key b : Nat) : Int)) (.bool true) (by with_unfolding_all rfl) (by with_unfolding_all rfl) (fun w => run_guardU w _ _ _ _ _) (fun w => HEL.out w) ?_); simp only [Act.put, List.setIfInBounds_toArray, List.set_cons_zero, List.set_cons_succ])
                      | (go_big_quiet_step (exact fun _ => rfl)))
                    with_reducible refine wpQuiet_nil ?_
                    intro w3q hw3
                    have HQ3 := Lib.hid (show Behind wr w3q from hw3)
                    clear hw3
                    go_wp2_with fail
                    go_roundg (7 - (m + 1))
                    case measure => omega
                    case rel => exact ⟨m + 1, m, rfl, by go_num, by omega, by omega, Nat.le_refl _, by omega, HNB.out, Behind.trM HQ1.out HQ3.out⟩
                  · have HEL := Lib.hid (fun w => run_lssU0 (farR key m : Nat) (farR key b : Nat) (by omega) w)
                    have HNB := Lib.hid (best_keep (by omega) hff HBR.out)
                    clear hff hbz
                    go_wp2_with fail
                    refine wp_region_class (Behind wr) (by kernel_rfl) (by kernel_rfl) (Below.refl _ _).drew ?_
                    iterate 16 (first
                      | go_big_quiet_skip
                      | ((with_reducible refine wpQuiet_loadBR (.bool true) (by with_unfolding_all rfl) 4 _ (by with_unfolding_all rfl) Tryd.underlying4 g5 (m) (by with_unfolding_all rfl) (fun w h => HC.out w h) ?_); simp only [Act.put, List.setIfInBounds_toArray, List.set_cons_zero, List.set_cons_succ])
                      | ((with_reducible refine wpQuiet_bin (by with_unfolding_all rfl) .eql 3 _ _ _ (by with_unfolding_all rfl) (.int .i64 ((b : Nat) : Int)) (.int .i64 0) (.bool false) (by with_unfolding_all rfl) (by with_unfolding_all rfl) (fun w => run_guardI w _ _ _ _ _) (fun w => HE0.out w) ?_); simp only [Act.put, List.setIfInBounds_toArray, List.set_cons_zero, List.set_cons_succ])
                      | ((with_reducible refine wpQuiet_load1 (.int .u64 (farR key m : Nat)) (by with_unfolding_all rfl) 27 _ (by with_unfolding_all rfl) .u64 Tryd.underlying27 g6 (m) (by with_unfolding_all rfl) (fun w h => HFM.out w h) ?_); simp only [Act.put, List.setIfInBounds_toArray, List.set_cons_zero, List.set_cons_succ])
                      | ((with_reducible refine wpQuiet_load1 (.int .u64 (farR key b : Nat)) (by with_unfolding_all rfl) 27 _ (by with_unfolding_all rfl) .u64 Tryd.underlying27 g6 (b) (by with_unfolding_all rfl) (fun w h => HFB.out w h) ?_); simp only [Act.put, List.setIfInBounds_toArray, List.set_cons_zero, List.set_cons_succ])
                      | ((with_reducible refine wpQuiet_bin (by with_unfolding_all rfl) .lss 27 _ _ _ (by with_unfolding_all rfl) (.int .u64 ((farR key m : Nat) : Int)) (.int .u64 ((farR key b : Nat) : Int)) (.bool false) (by with_unfolding_all rfl) (by with_unfolding_all rfl) (fun w => run_guardU w _ _ _ _ _) (fun w => HEL.out w) ?_); simp only [Act.put, List.setIfInBounds_toArray, List.set_cons_zero, List.set_cons_succ])
                      | (go_big_quiet_step (exact fun _ => rfl)))
                    with_reducible refine wpQuiet_nil ?_
                    intro w3q hw3
                    have HQ3 := Lib.hid (show Behind wr w3q from hw3)
                    clear hw3
                    go_wp2_with fail
                    go_roundg (7 - (m + 1))
                    case measure => omega
                    case rel => exact ⟨m + 1, b, rfl, by go_num, by omega, by omega, Nat.le_refl _, by omega, HNB.out, Behind.trM HQ1.out HQ3.out⟩
              · have hcu := HCU.out
                rw [decide_eq_false hmR] at hcu
                have HC := Lib.hid hcu
                have HNB := Lib.hid (best_skip hmR HBR.out)
                clear hcu hmR HCU
                go_wp2_with fail
                refine wp_region_class (Behind wr) (by kernel_rfl) (by kernel_rfl) (Below.refl _ _).drew ?_
                iterate 16 (first
                  | go_big_quiet_skip
                  | ((with_reducible refine wpQuiet_loadBR (.bool false) (by with_unfolding_all rfl) 4 _ (by with_unfolding_all rfl) Tryd.underlying4 g5 (m) (by with_unfolding_all rfl) (fun w h => HC.out w h) ?_); simp only [Act.put, List.setIfInBounds_toArray, List.set_cons_zero, List.set_cons_succ])
                  | (go_big_quiet_step (exact fun _ => rfl)))
                with_reducible refine wpQuiet_nil ?_
                intro w3q hw3
                have HQ3 := Lib.hid (show Behind wr w3q from hw3)
                clear hw3
                go_wp2_with fail
                go_roundg (7 - (m + 1))
                case measure => omega
                case rel => exact ⟨m + 1, b, rfl, by go_num, by omega, by omega, Nat.le_refl _, by omega, HNB.out, Behind.trM HQ1.out HQ3.out⟩
            · have hlmz : ¬ (m : Int) < (7 : Int) := by omega
              have hm : m = 7 := by omega
              subst hm
              have HUW := Lib.hid (HUX.out.below HQ1.out)
              have HOW := Lib.hid (HO.out.below HQ1.out)
              have HQW := Lib.hid (Behind.trM HQ.out HQ1.out)
              have HGW := Lib.hid (show g9 ≤ wr.heap.size from Nat.le_trans HGL.out HQ1.out.size)
              have hlen : R.length = M - k := by rw [HRE.out, List.length_drop, ← HMM.out]
              rcases best_end HR6.out HRP.out HBR.out with ⟨hb0, hR0⟩ | ⟨hb0, hb7, R', hRR⟩
              · subst hb0
                have hkM : k = min (r + 1) M := by
                  rw [hR0] at hlen
                  have : (0 : Nat) = M - k := hlen
                  omega
                have HUV := Lib.hid (show UpFar key w0.heap.size g5 g6 (W.drop k) W wr from by rw [← HRE.out]; exact HUW.out)
                clear hR0 hlen
                go_wp2_with fail
                go_roundg (6 - (r + 1))
                case measure => omega
                case rel => exact ⟨r + 1, k, v, rfl, by go_num, by omega, Nat.le_refl _, hkM, HOW.out, HUV.out, HQW.out, HGW.out⟩
              · have hb0z : (0 : Int) < (b : Int) := by omega
                have b0 : (0 : Int) ≤ (b : Int) := by omega
                have b7 : (b : Int) < (7 : Int) := by omega
                have hkM : k + 1 = min (r + 1) M := by
                  rw [hRR, List.length_cons] at hlen
                  omega
                have hkl : k < W.length := by
                  rw [hRR, List.length_cons] at hlen
                  have := HMM.out
                  omega
                have hd := List.drop_eq_getElem_cons hkl
                rw [← HRE.out, hRR, List.cons.injEq] at hd
                have htk : W.take (k + 1) = W.take k ++ [(b : Int)] := by rw [List.take_succ_eq_append_getElem hkl, ← hd.1]
                have hnot : (b : Int) ∉ R' := fun hm => by
                  have hp := HRP.out
                  rw [hRR] at hp
                  exact ltN_irrefl ((List.pairwise_cons.1 hp).1 _ hm)
                have hset : (upL R).set b false = upL (W.drop (k + 1)) := by
                  rw [← hd.2, hRR]
                  exact upL_set b false (by rw [decide_eq_false hnot]) fun n hn => by simp [hn]
                have HSET := Lib.hid hset
                have HTK := Lib.hid htk
                have hk6 : k ≤ 6 := by omega
                clear hd hnot hset htk hkl hlen hRR
                go_wp2_with (first
                  | ((with_reducible refine wpList_int1 (o := ⟨some 74, _, _, _, _, _⟩) (by with_unfolding_all rfl) (.tmp 73) rfl (b : Int) (by with_unfolding_all rfl) ?_); intro g74 wj hg hb hE; have HEO := Lib.hid hE; have HOj := Lib.hid (HOW.out.below hb); have HUj := Lib.hid (HUW.out.below hb); have HBj := Lib.hid (Behind.trM HQW.out hb); have hgj : g9 ≤ wj.heap.size := Nat.le_trans HGW.out hb.size; clear hg hb hE)
                  | (at_builtin; refine wpList_append_enc (enc := encN) (k := 1) rfl rfl (.tmp 72) (.tmp 74) 24 3 8 rfl _ Tryd.underlying24 info3Int rfl (by decide) g9 v k (W.take k) [(b : Int)] rfl HOj.out (fun _ _ => encN_len _) (fun _ _ => encN_one _) (some ⟨g74, 0, none⟩) 1 1 rfl rfl HEO.out (by unfold maxLen; simp; omega) (by simp; omega) hgj ?_; intro v75 wk hO7 hg7 hob; have HO75 := Lib.hid (show Own wk g9 3 1 v75 (k + 1) ((W.take (k + 1)).flatMap encN) from by rw [HTK.out]; exact hO7); have HBk := Lib.hid (show Behind w0 wk from own_below2 HOj.out HBj.out (by have h1 := HG96.out; have h2 := HUj.out.lo; have h3 := HUj.out.lt; omega) HBj.out.size hg7); have HGK := Lib.hid (show g9 ≤ wk.heap.size from Nat.le_trans hgj hg7.size); have HUk := Lib.hid (show UpFar key w0.heap.size g5 g6 R W wk from ⟨HUj.out.up.grown hg7 (fun e => by have h1 := (HOj.out.lt _ e.symm).1; have h2 := HG96.out; have h3 := HUj.out.lt; omega), HUj.out.far.grown hg7 (fun e => by have h1 := (HOj.out.lt _ e.symm).1; have h2 := HG96.out; omega), HUj.out.lo, HUj.out.lt⟩); clear hO7 hg7 hob)
                  | ((with_reducible refine wpList_storeBR rfl 4 (.tmp 77) (.const (.bool false)) rfl g5 b false (by with_unfolding_all rfl) (by with_unfolding_all rfl) (by kernel_rfl) 54 (bls (upL R)) HUk.out.up (by unfold bls; rw [List.length_map, upL_len]; omega) ?_); intro wa hat hg hs; have HUV := Lib.hid (show UpFar key w0.heap.size g5 g6 (W.drop (k + 1)) W wa from ⟨by rw [bls_set, HSET.out] at hat; exact hat, HUk.out.far.grown hg (fun e => by have h1 := Option.some.inj e; have h2 := HUk.out.lt; omega), HUk.out.lo, HUk.out.lt⟩); have HQV := Lib.hid (show Behind w0 wa from Below.ofGrown HBk.out hg HBk.out.size HUk.out.lo); have HO7 := Lib.hid (HO75.out.grown hg (.inr (fun e => by have h1 := (HO75.out.lt _ e).1; have h2 := HG96.out; have h3 := HUk.out.lt; omega))); have hgk2 : g9 ≤ wa.heap.size := Nat.le_trans HGK.out (Nat.le_of_eq hs.symm); clear hat hg hs))
                go_roundg (6 - (r + 1))
                case measure => omega
                case rel => exact ⟨r + 1, k + 1, v75, rfl, by go_num, by omega, Nat.le_refl _, hkM, HO7.out, HUV.out, HQV.out, (show Hid _ from hgk2)⟩
        · have hltz : ¬ (r : Int) < (6 : Int) := by omega
          have hkM : k = M := by omega
          subst hkM
          have htl : W.take k = W := List.take_of_length_le (by have := HMM.out; omega)
          have ho := HO.out
          rw [htl] at ho
          obtain ⟨A9, c9, hv9, hc9, hE9⟩ := ho.rows HMM.out (fun x _ => encN_len x)
          subst hv9
          have HE9 := Lib.hid hE9
          clear htl ho hE9 hk
          go_wp2_with fail
          go_ret
          exact ⟨A9, c9, rfl, hc9, by rw [← HWK.out]; exact HE9.out, Behind.trM HB0.out HQ.out⟩
end Go.Proofs.YtdfeiajdmmlllaaDoor
namespace Go.Proofs.YtdfeiajdmmlllaaDoor
open Go.Proofs Stab Go.Shelf Go.RowKit Go.Lib Go.Sort

set_option maxRecDepth 100000 in
set_option maxHeartbeats 1000000 in
theorem refowns_any (key : List UInt8) (hk : key.length = 32) (A : Option Addr) (c n : Nat) (l : List Int) (w : World) (hn : n = l.length) (hE : EncIn encN 1 w A l) (hs : n < 1000) (M : Nat) (hM : M = (ownsK key l).length) :
    Calls Tryd.prog 16 #[.agg (u8s key).toArray, .slice A n c] w fun e w' => ∃ A' c', e = .returned (.slice A' M c') ∧ M ≤ c' ∧ EncIn encN 1 w' A' (ownsK key l) ∧ Below w.heap.size w w' := by
  obtain ⟨K, hK⟩ : ∃ K, K = (walkK key l).length := ⟨_, rfl⟩
  have h1 : At (w.alloc (.cells (u8s key).toArray 23)) w.heap.size 23 (u8s key) := At.new w _ _
  have hb : Behind w (w.alloc (.cells (u8s key).toArray 23)) := (Below.refl _ _).alloc (Nat.le_refl _) _
  have HB0 := Lib.hid hb
  have HWK := Lib.hid (refwalk_any key hk A c n l (w.alloc (.cells (u8s key).toArray 23)) hn (hE.up hb) hs K hK)
  have HK1 := Lib.hid h1
  have HM := Lib.hid (show M = min 2 K by rw [hM, hK]; unfold ownsK; rw [List.length_take])
  have HKL := Lib.hid (show K = (walkK key l).length from hK)
  have HU := Lib.hid Tryd.underlying23
  have HI := Lib.hid (infoDg13 hk)
  clear h1 hb hE hn hs hM hk hK
  go_enter Tryd.func16, Tryd.ntmps16
  go_upto_region 2 with (first
    | (with_reducible refine wpList_loadAll rfl 23 (.tmp 2) rfl w.heap.size rfl _ _ _ HK1.out HU.out rfl HI.out ?_)
    | (go_at_call 14; (with_reducible refine Calls.mono HWK.out ?_); rintro e w1 ⟨A1, c1, rfl, hc1, hE1, hb⟩; have HE1 := Lib.hid hE1; have HC1 := Lib.hid hc1; have HB1 := Lib.hid (show Behind w w1 from Behind.trans' HB0.out hb); clear hE1 hc1 hb))
  have hT := EncIn.take (m := 2) (c := c1) HE1.out (by have := HKL.out; have := HC1.out; omega)
  have HT := Lib.hid hT
  clear hT
  by_cases h2 : 2 < K
  · obtain rfl : M = 2 := by have := HM.out; omega
    have hz : (2 : Int) < (K : Int) := by omega
    have hc2 : 2 ≤ c1 := by have := HC1.out; omega
    have HC2 := Lib.hid hc2
    clear hc2
    go_wp2_with (first
      | (with_reducible refine wpList_to13 (.slice (cutA A1 0 c1 1) 2 c1) w1 rfl (exec_slice_ints (.tmp 12) (.const (.int .i64 2)) rfl A1 K c1 2 (by with_unfolding_all rfl) (by with_unfolding_all rfl) HC2.out _) ?_))
    go_ret
    exact ⟨_, _, rfl, HC2.out, HT.out, HB1.out⟩
  · obtain rfl : M = K := by have := HM.out; omega
    have hz : ¬ (2 : Int) < (M : Int) := by omega
    have hw : ownsK key l = walkK key l := by
      unfold ownsK
      exact List.take_of_length_le (by have := HKL.out; omega)
    have HWW := Lib.hid hw
    clear hw
    go_wp2_with fail
    go_ret
    exact ⟨_, _, rfl, HC1.out, by rw [HWW.out]; exact HE1.out, HB1.out⟩
end Go.Proofs.YtdfeiajdmmlllaaDoor
namespace Go.Proofs.YtdfeiajdmmlllaaDoor
open Go.Proofs Stab Go.Shelf Go.RowKit Go.Lib Go.Sort

theorem mix_callvR {P : Program} {ops : Array Oper} {Q : Exit → Act → World → Prop} {S : World → Prop} {i : Nat} {r : List (Nat × Bool)} {a : Act} {w : World} {o : Oper} (f : FuncId) (args : List Value) (v : Value) (ho : ops.toList[i]? = some o) (hw : Region.wanted o (yielded ops a.tmps) = true) (hv : (execOp a.eval o).run P w = .ok (.enter f args.toArray) w)
    (hc : Calls P f args.toArray w fun e w' => e = .returned v ∧ S w') (h : ∀ w', S w' → wpMix P ops S Q r (a.put o.dst v) w') : wpMix P ops S Q ((i, false) :: r) a w :=
  wpMix_call f args (fun x _ => x = v) ho hw hv (hc.mono fun _ _ ⟨h1, h2⟩ => ⟨v, h1, h2, rfl⟩) (fun x w' hS hx => by rw [hx]; exact h w' hS)
theorem run_eqlE1 (a : Int) (w : World) : (binOp .eql 28 (.int .i64 a) (.int .i64 a)).run Tryd.prog w = .ok (.bool true) w := by
  go_simp
theorem run_guardE (w : World) (op : BinOp) (x y : Operand) (a b : Int) : (eqGuard op 28 x y (.int .i64 a) (.int .i64 b)).run Tryd.prog w = .ok () w := by
  unfold eqGuard
  go_simp
/-- a point of a node: the same of the two -/
theorem points (p q : Int) : ∃ (vp : Nat) (ve : Int), (∀ W, Tab W 0 (u32s Sha.words) → Calls Tryd.prog 8 #[.int .i64 p, .int .i64 q] W fun e w' => e = .returned (.tuple #[.int .u64 vp, .int .i64 ve]) ∧ Below W.heap.size W w') ∧
    ∀ W, Calls Tryd.prog 9 #[.int .i64 p, .int .i64 q] W fun e w' => e = .returned (.tuple #[.int .u64 vp, .int .i64 ve]) ∧ Below W.heap.size W w' := by
  by_cases h : (1 ≤ p ∧ p ≤ 6) ∧ 0 ≤ q ∧ q < 8
  · exact ⟨pointR p q, 0, fun W hW => point_good p q h.1 h.2 W hW, fun W => refpoint_good p q h.1 h.2 W⟩
  · exact ⟨0, 1, fun W _ => point_bad p q h W, fun W => refpoint_bad p q h W⟩
set_option maxRecDepth 100000 in
set_option maxHeartbeats 8000000 in
theorem rexact_any (key : List UInt8) (hk : key.length = 32) (A0 : Option Addr) (c0 : Nat) (l : List Int) (p q : Int) (w : World) (hE0 : EncIn encN 1 w A0 l) (_ : l.length ≤ c0) (hm0 : c0 ≤ maxLen) (_ : A0 = none → c0 = 0) (_ : (Lit.int .i64 p).wf = true) (_ : (Lit.int .i64 q).wf = true) (hwd : Tab w 0 (u32s Sha.words)) :
    Calls Tryd.prog 3 #[.agg (u8s key).toArray, .slice A0 l.length c0, .agg #[.int .i64 p, .int .i64 q]] w fun e w' => e = .returned (.bool true) ∧ Below w.heap.size w w' := by
  have hn0 : l.length ≤ 9223372036854775807 := by unfold maxLen at hm0; omega
  have h1 : At (w.alloc (.cells (u8s key).toArray 23)) w.heap.size 23 (u8s key) := At.new w _ _
  have hba : Behind w (w.alloc (.cells (u8s key).toArray 23)) := (Below.refl _ _).alloc (Nat.le_refl _) _
  obtain ⟨gq3, hgq3⟩ : ∃ g, g = w.heap.size := ⟨_, rfl⟩
  obtain ⟨wa, hwa⟩ : ∃ x, x = w.alloc (.cells (u8s key).toArray 23) := ⟨_, rfl⟩
  rw [← hwa] at h1 hba
  have h2 : At (wa.alloc (.cells #[.int .i64 p, .int .i64 q] 25)) wa.heap.size 25 [.int .i64 p, .int .i64 q] := At.new wa _ _
  have hbb : Behind wa (wa.alloc (.cells #[.int .i64 p, .int .i64 q] 25)) := (Below.refl _ _).alloc (Nat.le_refl _) _
  obtain ⟨gq5, hgq5⟩ : ∃ g, g = wa.heap.size := ⟨_, rfl⟩
  obtain ⟨w0, hw0⟩ : ∃ x, x = wa.alloc (.cells #[.int .i64 p, .int .i64 q] 25) := ⟨_, rfl⟩
  rw [← hw0] at h2 hbb
  rw [← hgq5] at h2
  rw [← hgq3] at h1
  obtain ⟨n, hn⟩ : ∃ n, n = l.length := ⟨_, rfl⟩
  rw [← hn] at hn0 ⊢
  have HN := Lib.hid hn
  have HW := Lib.hid (show ∀ W, Behind w0 W → Tab W 0 (u32s Sha.words) from fun W h => hwd.below (Behind.trM (Behind.trM hba hbb) h) hwd.lt)
  have HE := Lib.hid (show ∀ W, Behind w0 W → EncIn encN 1 W A0 l from fun W h => hE0.up (Behind.trM (Behind.trM hba hbb) h))
  have HSK := Lib.hid (show ∀ W, Behind w0 W → W.rangeAt gq3 0 (u8s key) from fun W h => (h1.below (Behind.trM hbb h) h1.lt).all)
  have HC0 := Lib.hid (show ∀ W, Behind w0 W → W.cell? ⟨gq5, 0, none⟩ = some (.int .i64 p) from fun W h => (h2.below h h2.lt).cell' rfl)
  have HC1 := Lib.hid (show ∀ W, Behind w0 W → W.cell? ⟨gq5, 1, none⟩ = some (.int .i64 q) from fun W h => (h2.below h h2.lt).cell' rfl)
  have HB0 := Lib.hid (show Behind w w0 from Behind.trM hba hbb)
  have HKL := Lib.hid hk
  have HU := Lib.hid Tryd.underlying23
  have HI := Lib.hid (infoDg13 hk)
  have h23 : gq3 + 1 = gq5 := by rw [hgq5, hwa, hgq3]; exact (Array.size_push _).symm
  clear hwd h1 h2 hba hbb hk hE0 hm0 hn
  go_enter Tryd.func3, Tryd.ntmps3
  go_upto_region 1 with fail
  rw [← hwa, ← hgq3, h23, ← hw0]
  clear h23 hgq3 hgq5 hwa hw0
  have HAW := Lib.hid (awake13_any w0 (HW.out w0 (Behind.refl _)))
  go_upto_region 3 with (first
    | (go_at_call 7; (with_reducible refine Calls.mono HAW.out ?_); rintro e w1 ⟨rfl, hb⟩; have HB1 := Lib.hid (show Behind w0 w1 from hb); clear hb))
  by_cases h60 : 60 < n
  · have hz : (60 : Int) < (n : Int) := by omega
    go_wp2_with fail
    go_ret
    exact ⟨rfl, Behind.trM HB0.out HB1.out⟩
  have hz60 : ¬ (60 : Int) < (n : Int) := by omega
  obtain ⟨vp, ve, hp1, hp2⟩ := points p q
  have HP1 := Lib.hid (show ∀ W, Behind w0 W → _ from fun W h => hp1 W (HW.out W h))
  have HP2 := Lib.hid hp2
  obtain ⟨K, hK⟩ : ∃ K, K = walkK key l := ⟨_, rfl⟩
  obtain ⟨M, hM⟩ : ∃ M, M = K.length := ⟨_, rfl⟩
  obtain ⟨O, hO⟩ : ∃ O, O = ownsK key l := ⟨_, rfl⟩
  obtain ⟨m, hm⟩ : ∃ m, m = O.length := ⟨_, rfl⟩
  have hM6 : M ≤ 6 := by rw [hM, hK]; exact walk_len _ _
  have hm6 : m ≤ 6 := by rw [hm, hO]; unfold ownsK; rw [List.length_take, ← hK, ← hM]; omega
  have HWK := Lib.hid (show ∀ W, Behind w0 W → Calls Tryd.prog 13 #[.agg (u8s key).toArray, .slice A0 n c0] W fun e w' => ∃ A' c', e = .returned (.slice A' M c') ∧ M ≤ c' ∧ EncIn encN 1 w' A' K ∧ Below W.heap.size W w' from fun W hW => by rw [hK] at hM ⊢; exact walk_any key HKL.out A0 c0 n l W HN.out (HE.out W hW) (by omega) (HW.out W hW) M hM)
  have HRW := Lib.hid (show ∀ W, Behind w0 W → Calls Tryd.prog 14 #[.agg (u8s key).toArray, .slice A0 n c0] W fun e w' => ∃ A' c', e = .returned (.slice A' M c') ∧ M ≤ c' ∧ EncIn encN 1 w' A' K ∧ Below W.heap.size W w' from fun W hW => by rw [hK] at hM ⊢; exact refwalk_any key HKL.out A0 c0 n l W HN.out (HE.out W hW) (by omega) M hM)
  have HOW := Lib.hid (show ∀ W, Behind w0 W → Calls Tryd.prog 15 #[.agg (u8s key).toArray, .slice A0 n c0] W fun e w' => ∃ A' c', e = .returned (.slice A' m c') ∧ m ≤ c' ∧ EncIn encN 1 w' A' O ∧ Below W.heap.size W w' from fun W hW => by rw [hO] at hm ⊢; exact owns_any key HKL.out A0 c0 n l W HN.out (HE.out W hW) (by omega) (HW.out W hW) m hm)
  have HRO := Lib.hid (show ∀ W, Behind w0 W → Calls Tryd.prog 16 #[.agg (u8s key).toArray, .slice A0 n c0] W fun e w' => ∃ A' c', e = .returned (.slice A' m c') ∧ m ≤ c' ∧ EncIn encN 1 w' A' O ∧ Below W.heap.size W w' from fun W hW => by rw [hO] at hm ⊢; exact refowns_any key HKL.out A0 c0 n l W HN.out (HE.out W hW) (by omega) m hm)
  have HPL := Lib.hid (show ∀ W, Calls Tryd.prog 10 #[.agg (u8s key).toArray] W fun e w' => e = .returned (.int .u64 (placeR key)) ∧ Below W.heap.size W w' from fun W => place_any key HKL.out W)
  have HRP := Lib.hid (show ∀ W, Calls Tryd.prog 11 #[.agg (u8s key).toArray] W fun e w' => e = .returned (.int .u64 (placeR key)) ∧ Below W.heap.size W w' from fun W => refplace_any key HKL.out W)
  have HIK := Lib.hid (show ∀ (P Q : Option Addr) (p q : Nat) W, EncIn encN 1 W P K → EncIn encN 1 W Q K → Calls Tryd.prog 12 #[.slice P M p, .slice Q M q] W fun e w' => e = .returned (.bool true) ∧ Below W.heap.size W w' from fun P Q p q W hP hQ => by
    have h := ints_any P Q p q K K M M W hM hM hP hQ (by omega) (by omega)
    rw [decide_eq_true rfl] at h
    exact h)
  have HIO := Lib.hid (show ∀ (P Q : Option Addr) (p q : Nat) W, EncIn encN 1 W P O → EncIn encN 1 W Q O → Calls Tryd.prog 12 #[.slice P m p, .slice Q m q] W fun e w' => e = .returned (.bool true) ∧ Below W.heap.size W w' from fun P Q p q W hP hQ => by
    have h := ints_any P Q p q O O m m W hm hm hP hQ (by omega) (by omega)
    rw [decide_eq_true rfl] at h
    exact h)
  obtain ⟨src, hsrc⟩ : ∃ p, p = placeR key := ⟨_, rfl⟩
  rw [← hsrc] at HPL HRP
  have HG1 := Lib.hid (fun w => run_eqlU1 (vp : Int) w)
  have HG2 := Lib.hid (fun w => run_eqlE1 ve w)
  have HG3 := Lib.hid (fun w => run_eqlU1 (src : Int) w)
  have hc0 := HC0.out w1 HB1.out
  have hc1 := HC1.out w1 HB1.out
  clear hp1 hp2 hK hM hO hm hsrc
  go_upto_region 7 with (first
    | (go_at_call 8; (with_reducible refine Calls.mono (HP1.out w1 HB1.out) ?_); rintro e w2 ⟨rfl, hb⟩; have HB2 := Lib.hid (show Behind w0 w2 from Behind.trM HB1.out hb); have hd0 := HC0.out w2 HB2.out; have hd1 := HC1.out w2 HB2.out; clear hb)
    | (go_at_call 9; (with_reducible refine Calls.mono (HP2.out w2) ?_); rintro e w3 ⟨rfl, hb⟩; have HB3 := Lib.hid (show Behind w0 w3 from Behind.trM HB2.out hb); clear hb))
  clear hc0 hc1 hd0 hd1
  refine wp_region_mix [(0, true), (1, true), (2, true), (3, true), (4, true), (5, true), (6, true), (7, true), (8, true), (9, true), (11, true), (10, false), (12, false), (13, true), (14, true), (15, true), (16, true), (17, true), (19, true), (20, true), (18, false), (21, false), (22, false), (23, true), (24, true), (25, true), (26, true), (28, true), (29, true), (27, false), (30, false), (31, false), (32, true), (33, true)] (Behind w0)
    (by kernel_rfl) (by kernel_rfl) (fun _ _ d _ _ h => by cases d <;> exact h) (by kernel_rfl) (by decide) (Behind.trM HB3.out (Below.refl _ _).drew) ?_
  have hz0 : Behind w0 w3.drew := Behind.trM HB3.out (Below.refl _ _).drew
  generalize w3.drew = z0 at hz0 ⊢
  repeat (
    refine wpMix_q (by with_unfolding_all rfl) (by kernel_rfl) ?_
    first
      | go_big_quiet_skip
      | ((with_reducible refine wpQuiet_bin (by with_unfolding_all rfl) .eql 27 _ _ _ (by with_unfolding_all rfl) (.int .u64 ((vp : Nat) : Int)) (.int .u64 ((vp : Nat) : Int)) (.bool true) (by with_unfolding_all rfl) (by with_unfolding_all rfl) (fun w => run_guardU w _ _ _ _ _) (fun w => HG1.out w) ?_); simp only [Act.put, List.setIfInBounds_toArray, List.set_cons_zero, List.set_cons_succ])
      | ((with_reducible refine wpQuiet_bin (by with_unfolding_all rfl) .eql 28 _ _ _ (by with_unfolding_all rfl) (.int .i64 ve) (.int .i64 ve) (.bool true) (by with_unfolding_all rfl) (by with_unfolding_all rfl) (fun w => run_guardE w _ _ _ _ _) (fun w => HG2.out w) ?_); simp only [Act.put, List.setIfInBounds_toArray, List.set_cons_zero, List.set_cons_succ])
      | ((with_reducible refine wpQuiet_bin (by with_unfolding_all rfl) .eql 27 _ _ _ (by with_unfolding_all rfl) (.int .u64 ((src : Nat) : Int)) (.int .u64 ((src : Nat) : Int)) (.bool true) (by with_unfolding_all rfl) (by with_unfolding_all rfl) (fun w => run_guardU w _ _ _ _ _) (fun w => HG3.out w) ?_); simp only [Act.put, List.setIfInBounds_toArray, List.set_cons_zero, List.set_cons_succ])
      | ((with_reducible refine wpQuiet_loadAll (by with_unfolding_all rfl) 23 _ (by with_unfolding_all rfl) gq3 (0) (by with_unfolding_all rfl) (u8s key) _ (fun w h => HSK.out w h) HU.out (by with_unfolding_all rfl) HI.out ?_); simp only [Act.put, List.setIfInBounds_toArray, List.set_cons_zero, List.set_cons_succ])
      | (go_big_quiet_step (exact fun _ => rfl))
    refine wpMix_qnil ?_)
  refine mix_callvR 10 [.agg (u8s key).toArray] (.int .u64 ((src : Nat) : Int)) (by with_unfolding_all rfl) (by with_unfolding_all rfl) (by with_unfolding_all rfl) ((HPL.out _).mono (fun e w' ⟨he, hb⟩ => ⟨he, Behind.trM hz0 hb⟩)) ?_
  intro z1 hz1
  simp only [Act.put, List.setIfInBounds_toArray, List.set_cons_zero, List.set_cons_succ]
  repeat (
    refine wpMix_q (by with_unfolding_all rfl) (by kernel_rfl) ?_
    first
      | go_big_quiet_skip
      | ((with_reducible refine wpQuiet_bin (by with_unfolding_all rfl) .eql 27 _ _ _ (by with_unfolding_all rfl) (.int .u64 ((vp : Nat) : Int)) (.int .u64 ((vp : Nat) : Int)) (.bool true) (by with_unfolding_all rfl) (by with_unfolding_all rfl) (fun w => run_guardU w _ _ _ _ _) (fun w => HG1.out w) ?_); simp only [Act.put, List.setIfInBounds_toArray, List.set_cons_zero, List.set_cons_succ])
      | ((with_reducible refine wpQuiet_bin (by with_unfolding_all rfl) .eql 28 _ _ _ (by with_unfolding_all rfl) (.int .i64 ve) (.int .i64 ve) (.bool true) (by with_unfolding_all rfl) (by with_unfolding_all rfl) (fun w => run_guardE w _ _ _ _ _) (fun w => HG2.out w) ?_); simp only [Act.put, List.setIfInBounds_toArray, List.set_cons_zero, List.set_cons_succ])
      | ((with_reducible refine wpQuiet_bin (by with_unfolding_all rfl) .eql 27 _ _ _ (by with_unfolding_all rfl) (.int .u64 ((src : Nat) : Int)) (.int .u64 ((src : Nat) : Int)) (.bool true) (by with_unfolding_all rfl) (by with_unfolding_all rfl) (fun w => run_guardU w _ _ _ _ _) (fun w => HG3.out w) ?_); simp only [Act.put, List.setIfInBounds_toArray, List.set_cons_zero, List.set_cons_succ])
      | ((with_reducible refine wpQuiet_loadAll (by with_unfolding_all rfl) 23 _ (by with_unfolding_all rfl) gq3 (0) (by with_unfolding_all rfl) (u8s key) _ (fun w h => HSK.out w h) HU.out (by with_unfolding_all rfl) HI.out ?_); simp only [Act.put, List.setIfInBounds_toArray, List.set_cons_zero, List.set_cons_succ])
      | (go_big_quiet_step (exact fun _ => rfl))
    refine wpMix_qnil ?_)
  refine mix_callvR 11 [.agg (u8s key).toArray] (.int .u64 ((src : Nat) : Int)) (by with_unfolding_all rfl) (by with_unfolding_all rfl) (by with_unfolding_all rfl) ((HRP.out _).mono (fun e w' ⟨he, hb⟩ => ⟨he, Behind.trM hz1 hb⟩)) ?_
  intro z2 hz2
  simp only [Act.put, List.setIfInBounds_toArray, List.set_cons_zero, List.set_cons_succ]
  repeat (
    refine wpMix_q (by with_unfolding_all rfl) (by kernel_rfl) ?_
    first
      | go_big_quiet_skip
      | ((with_reducible refine wpQuiet_bin (by with_unfolding_all rfl) .eql 27 _ _ _ (by with_unfolding_all rfl) (.int .u64 ((vp : Nat) : Int)) (.int .u64 ((vp : Nat) : Int)) (.bool true) (by with_unfolding_all rfl) (by with_unfolding_all rfl) (fun w => run_guardU w _ _ _ _ _) (fun w => HG1.out w) ?_); simp only [Act.put, List.setIfInBounds_toArray, List.set_cons_zero, List.set_cons_succ])
      | ((with_reducible refine wpQuiet_bin (by with_unfolding_all rfl) .eql 28 _ _ _ (by with_unfolding_all rfl) (.int .i64 ve) (.int .i64 ve) (.bool true) (by with_unfolding_all rfl) (by with_unfolding_all rfl) (fun w => run_guardE w _ _ _ _ _) (fun w => HG2.out w) ?_); simp only [Act.put, List.setIfInBounds_toArray, List.set_cons_zero, List.set_cons_succ])
      | ((with_reducible refine wpQuiet_bin (by with_unfolding_all rfl) .eql 27 _ _ _ (by with_unfolding_all rfl) (.int .u64 ((src : Nat) : Int)) (.int .u64 ((src : Nat) : Int)) (.bool true) (by with_unfolding_all rfl) (by with_unfolding_all rfl) (fun w => run_guardU w _ _ _ _ _) (fun w => HG3.out w) ?_); simp only [Act.put, List.setIfInBounds_toArray, List.set_cons_zero, List.set_cons_succ])
      | ((with_reducible refine wpQuiet_loadAll (by with_unfolding_all rfl) 23 _ (by with_unfolding_all rfl) gq3 (0) (by with_unfolding_all rfl) (u8s key) _ (fun w h => HSK.out w h) HU.out (by with_unfolding_all rfl) HI.out ?_); simp only [Act.put, List.setIfInBounds_toArray, List.set_cons_zero, List.set_cons_succ])
      | (go_big_quiet_step (exact fun _ => rfl))
    refine wpMix_qnil ?_)
  refine wpMix_call 13 [.agg (u8s key).toArray, .slice A0 n c0] (fun v w' => ∃ A' c', v = .slice A' M c' ∧ EncIn encN 1 w' A' K ∧ Below z2.heap.size z2 w') (by with_unfolding_all rfl) (by with_unfolding_all rfl) (by with_unfolding_all rfl) ((HWK.out _ hz2).mono (fun e w' ⟨A', c', he, _, hE, hb⟩ => ⟨_, he, Behind.trM hz2 hb, A', c', rfl, hE, hb⟩)) ?_
  rintro v50 z3 hz3 ⟨A50, c50, rfl, hE50, hb50⟩
  simp only [Act.put, List.setIfInBounds_toArray, List.set_cons_zero, List.set_cons_succ]
  repeat (
    refine wpMix_q (by with_unfolding_all rfl) (by kernel_rfl) ?_
    first
      | go_big_quiet_skip
      | ((with_reducible refine wpQuiet_bin (by with_unfolding_all rfl) .eql 27 _ _ _ (by with_unfolding_all rfl) (.int .u64 ((vp : Nat) : Int)) (.int .u64 ((vp : Nat) : Int)) (.bool true) (by with_unfolding_all rfl) (by with_unfolding_all rfl) (fun w => run_guardU w _ _ _ _ _) (fun w => HG1.out w) ?_); simp only [Act.put, List.setIfInBounds_toArray, List.set_cons_zero, List.set_cons_succ])
      | ((with_reducible refine wpQuiet_bin (by with_unfolding_all rfl) .eql 28 _ _ _ (by with_unfolding_all rfl) (.int .i64 ve) (.int .i64 ve) (.bool true) (by with_unfolding_all rfl) (by with_unfolding_all rfl) (fun w => run_guardE w _ _ _ _ _) (fun w => HG2.out w) ?_); simp only [Act.put, List.setIfInBounds_toArray, List.set_cons_zero, List.set_cons_succ])
      | ((with_reducible refine wpQuiet_bin (by with_unfolding_all rfl) .eql 27 _ _ _ (by with_unfolding_all rfl) (.int .u64 ((src : Nat) : Int)) (.int .u64 ((src : Nat) : Int)) (.bool true) (by with_unfolding_all rfl) (by with_unfolding_all rfl) (fun w => run_guardU w _ _ _ _ _) (fun w => HG3.out w) ?_); simp only [Act.put, List.setIfInBounds_toArray, List.set_cons_zero, List.set_cons_succ])
      | ((with_reducible refine wpQuiet_loadAll (by with_unfolding_all rfl) 23 _ (by with_unfolding_all rfl) gq3 (0) (by with_unfolding_all rfl) (u8s key) _ (fun w h => HSK.out w h) HU.out (by with_unfolding_all rfl) HI.out ?_); simp only [Act.put, List.setIfInBounds_toArray, List.set_cons_zero, List.set_cons_succ])
      | (go_big_quiet_step (exact fun _ => rfl))
    refine wpMix_qnil ?_)
  refine wpMix_call 14 [.agg (u8s key).toArray, .slice A0 n c0] (fun v w' => ∃ A' c', v = .slice A' M c' ∧ EncIn encN 1 w' A' K ∧ Below z3.heap.size z3 w') (by with_unfolding_all rfl) (by with_unfolding_all rfl) (by with_unfolding_all rfl) ((HRW.out _ hz3).mono (fun e w' ⟨A', c', he, _, hE, hb⟩ => ⟨_, he, Behind.trM hz3 hb, A', c', rfl, hE, hb⟩)) ?_
  rintro v53 z4 hz4 ⟨A53, c53, rfl, hE53, hb53⟩
  simp only [Act.put, List.setIfInBounds_toArray, List.set_cons_zero, List.set_cons_succ]
  repeat (
    refine wpMix_q (by with_unfolding_all rfl) (by kernel_rfl) ?_
    first
      | go_big_quiet_skip
      | ((with_reducible refine wpQuiet_bin (by with_unfolding_all rfl) .eql 27 _ _ _ (by with_unfolding_all rfl) (.int .u64 ((vp : Nat) : Int)) (.int .u64 ((vp : Nat) : Int)) (.bool true) (by with_unfolding_all rfl) (by with_unfolding_all rfl) (fun w => run_guardU w _ _ _ _ _) (fun w => HG1.out w) ?_); simp only [Act.put, List.setIfInBounds_toArray, List.set_cons_zero, List.set_cons_succ])
      | ((with_reducible refine wpQuiet_bin (by with_unfolding_all rfl) .eql 28 _ _ _ (by with_unfolding_all rfl) (.int .i64 ve) (.int .i64 ve) (.bool true) (by with_unfolding_all rfl) (by with_unfolding_all rfl) (fun w => run_guardE w _ _ _ _ _) (fun w => HG2.out w) ?_); simp only [Act.put, List.setIfInBounds_toArray, List.set_cons_zero, List.set_cons_succ])
      | ((with_reducible refine wpQuiet_bin (by with_unfolding_all rfl) .eql 27 _ _ _ (by with_unfolding_all rfl) (.int .u64 ((src : Nat) : Int)) (.int .u64 ((src : Nat) : Int)) (.bool true) (by with_unfolding_all rfl) (by with_unfolding_all rfl) (fun w => run_guardU w _ _ _ _ _) (fun w => HG3.out w) ?_); simp only [Act.put, List.setIfInBounds_toArray, List.set_cons_zero, List.set_cons_succ])
      | ((with_reducible refine wpQuiet_loadAll (by with_unfolding_all rfl) 23 _ (by with_unfolding_all rfl) gq3 (0) (by with_unfolding_all rfl) (u8s key) _ (fun w h => HSK.out w h) HU.out (by with_unfolding_all rfl) HI.out ?_); simp only [Act.put, List.setIfInBounds_toArray, List.set_cons_zero, List.set_cons_succ])
      | (go_big_quiet_step (exact fun _ => rfl))
    refine wpMix_qnil ?_)
  refine mix_callvR 12 [.slice A50 M c50, .slice A53 M c53] (.bool true) (by with_unfolding_all rfl) (by with_unfolding_all rfl) (by with_unfolding_all rfl) ((HIK.out A50 A53 c50 c53 z4 (hE50.up hb53) hE53).mono (fun e w' ⟨he, hb⟩ => ⟨he, Behind.trM hz4 hb⟩)) ?_
  intro z5 hz5
  simp only [Act.put, List.setIfInBounds_toArray, List.set_cons_zero, List.set_cons_succ]
  repeat (
    refine wpMix_q (by with_unfolding_all rfl) (by kernel_rfl) ?_
    first
      | go_big_quiet_skip
      | ((with_reducible refine wpQuiet_bin (by with_unfolding_all rfl) .eql 27 _ _ _ (by with_unfolding_all rfl) (.int .u64 ((vp : Nat) : Int)) (.int .u64 ((vp : Nat) : Int)) (.bool true) (by with_unfolding_all rfl) (by with_unfolding_all rfl) (fun w => run_guardU w _ _ _ _ _) (fun w => HG1.out w) ?_); simp only [Act.put, List.setIfInBounds_toArray, List.set_cons_zero, List.set_cons_succ])
      | ((with_reducible refine wpQuiet_bin (by with_unfolding_all rfl) .eql 28 _ _ _ (by with_unfolding_all rfl) (.int .i64 ve) (.int .i64 ve) (.bool true) (by with_unfolding_all rfl) (by with_unfolding_all rfl) (fun w => run_guardE w _ _ _ _ _) (fun w => HG2.out w) ?_); simp only [Act.put, List.setIfInBounds_toArray, List.set_cons_zero, List.set_cons_succ])
      | ((with_reducible refine wpQuiet_bin (by with_unfolding_all rfl) .eql 27 _ _ _ (by with_unfolding_all rfl) (.int .u64 ((src : Nat) : Int)) (.int .u64 ((src : Nat) : Int)) (.bool true) (by with_unfolding_all rfl) (by with_unfolding_all rfl) (fun w => run_guardU w _ _ _ _ _) (fun w => HG3.out w) ?_); simp only [Act.put, List.setIfInBounds_toArray, List.set_cons_zero, List.set_cons_succ])
      | ((with_reducible refine wpQuiet_loadAll (by with_unfolding_all rfl) 23 _ (by with_unfolding_all rfl) gq3 (0) (by with_unfolding_all rfl) (u8s key) _ (fun w h => HSK.out w h) HU.out (by with_unfolding_all rfl) HI.out ?_); simp only [Act.put, List.setIfInBounds_toArray, List.set_cons_zero, List.set_cons_succ])
      | (go_big_quiet_step (exact fun _ => rfl))
    refine wpMix_qnil ?_)
  refine wpMix_call 15 [.agg (u8s key).toArray, .slice A0 n c0] (fun v w' => ∃ A' c', v = .slice A' m c' ∧ EncIn encN 1 w' A' O ∧ Below z5.heap.size z5 w') (by with_unfolding_all rfl) (by with_unfolding_all rfl) (by with_unfolding_all rfl) ((HOW.out _ hz5).mono (fun e w' ⟨A', c', he, _, hE, hb⟩ => ⟨_, he, Behind.trM hz5 hb, A', c', rfl, hE, hb⟩)) ?_
  rintro v59 z6 hz6 ⟨A59, c59, rfl, hE59, hb59⟩
  simp only [Act.put, List.setIfInBounds_toArray, List.set_cons_zero, List.set_cons_succ]
  repeat (
    refine wpMix_q (by with_unfolding_all rfl) (by kernel_rfl) ?_
    first
      | go_big_quiet_skip
      | ((with_reducible refine wpQuiet_bin (by with_unfolding_all rfl) .eql 27 _ _ _ (by with_unfolding_all rfl) (.int .u64 ((vp : Nat) : Int)) (.int .u64 ((vp : Nat) : Int)) (.bool true) (by with_unfolding_all rfl) (by with_unfolding_all rfl) (fun w => run_guardU w _ _ _ _ _) (fun w => HG1.out w) ?_); simp only [Act.put, List.setIfInBounds_toArray, List.set_cons_zero, List.set_cons_succ])
      | ((with_reducible refine wpQuiet_bin (by with_unfolding_all rfl) .eql 28 _ _ _ (by with_unfolding_all rfl) (.int .i64 ve) (.int .i64 ve) (.bool true) (by with_unfolding_all rfl) (by with_unfolding_all rfl) (fun w => run_guardE w _ _ _ _ _) (fun w => HG2.out w) ?_); simp only [Act.put, List.setIfInBounds_toArray, List.set_cons_zero, List.set_cons_succ])
      | ((with_reducible refine wpQuiet_bin (by with_unfolding_all rfl) .eql 27 _ _ _ (by with_unfolding_all rfl) (.int .u64 ((src : Nat) : Int)) (.int .u64 ((src : Nat) : Int)) (.bool true) (by with_unfolding_all rfl) (by with_unfolding_all rfl) (fun w => run_guardU w _ _ _ _ _) (fun w => HG3.out w) ?_); simp only [Act.put, List.setIfInBounds_toArray, List.set_cons_zero, List.set_cons_succ])
      | ((with_reducible refine wpQuiet_loadAll (by with_unfolding_all rfl) 23 _ (by with_unfolding_all rfl) gq3 (0) (by with_unfolding_all rfl) (u8s key) _ (fun w h => HSK.out w h) HU.out (by with_unfolding_all rfl) HI.out ?_); simp only [Act.put, List.setIfInBounds_toArray, List.set_cons_zero, List.set_cons_succ])
      | (go_big_quiet_step (exact fun _ => rfl))
    refine wpMix_qnil ?_)
  refine wpMix_call 16 [.agg (u8s key).toArray, .slice A0 n c0] (fun v w' => ∃ A' c', v = .slice A' m c' ∧ EncIn encN 1 w' A' O ∧ Below z6.heap.size z6 w') (by with_unfolding_all rfl) (by with_unfolding_all rfl) (by with_unfolding_all rfl) ((HRO.out _ hz6).mono (fun e w' ⟨A', c', he, _, hE, hb⟩ => ⟨_, he, Behind.trM hz6 hb, A', c', rfl, hE, hb⟩)) ?_
  rintro v62 z7 hz7 ⟨A62, c62, rfl, hE62, hb62⟩
  simp only [Act.put, List.setIfInBounds_toArray, List.set_cons_zero, List.set_cons_succ]
  repeat (
    refine wpMix_q (by with_unfolding_all rfl) (by kernel_rfl) ?_
    first
      | go_big_quiet_skip
      | ((with_reducible refine wpQuiet_bin (by with_unfolding_all rfl) .eql 27 _ _ _ (by with_unfolding_all rfl) (.int .u64 ((vp : Nat) : Int)) (.int .u64 ((vp : Nat) : Int)) (.bool true) (by with_unfolding_all rfl) (by with_unfolding_all rfl) (fun w => run_guardU w _ _ _ _ _) (fun w => HG1.out w) ?_); simp only [Act.put, List.setIfInBounds_toArray, List.set_cons_zero, List.set_cons_succ])
      | ((with_reducible refine wpQuiet_bin (by with_unfolding_all rfl) .eql 28 _ _ _ (by with_unfolding_all rfl) (.int .i64 ve) (.int .i64 ve) (.bool true) (by with_unfolding_all rfl) (by with_unfolding_all rfl) (fun w => run_guardE w _ _ _ _ _) (fun w => HG2.out w) ?_); simp only [Act.put, List.setIfInBounds_toArray, List.set_cons_zero, List.set_cons_succ])
      | ((with_reducible refine wpQuiet_bin (by with_unfolding_all rfl) .eql 27 _ _ _ (by with_unfolding_all rfl) (.int .u64 ((src : Nat) : Int)) (.int .u64 ((src : Nat) : Int)) (.bool true) (by with_unfolding_all rfl) (by with_unfolding_all rfl) (fun w => run_guardU w _ _ _ _ _) (fun w => HG3.out w) ?_); simp only [Act.put, List.setIfInBounds_toArray, List.set_cons_zero, List.set_cons_succ])
      | ((with_reducible refine wpQuiet_loadAll (by with_unfolding_all rfl) 23 _ (by with_unfolding_all rfl) gq3 (0) (by with_unfolding_all rfl) (u8s key) _ (fun w h => HSK.out w h) HU.out (by with_unfolding_all rfl) HI.out ?_); simp only [Act.put, List.setIfInBounds_toArray, List.set_cons_zero, List.set_cons_succ])
      | (go_big_quiet_step (exact fun _ => rfl))
    refine wpMix_qnil ?_)
  refine mix_callvR 12 [.slice A59 m c59, .slice A62 m c62] (.bool true) (by with_unfolding_all rfl) (by with_unfolding_all rfl) (by with_unfolding_all rfl) ((HIO.out A59 A62 c59 c62 z7 (hE59.up hb62) hE62).mono (fun e w' ⟨he, hb⟩ => ⟨he, Behind.trM hz7 hb⟩)) ?_
  intro z8 hz8
  simp only [Act.put, List.setIfInBounds_toArray, List.set_cons_zero, List.set_cons_succ]
  repeat (
    refine wpMix_q (by with_unfolding_all rfl) (by kernel_rfl) ?_
    first
      | go_big_quiet_skip
      | ((with_reducible refine wpQuiet_bin (by with_unfolding_all rfl) .eql 27 _ _ _ (by with_unfolding_all rfl) (.int .u64 ((vp : Nat) : Int)) (.int .u64 ((vp : Nat) : Int)) (.bool true) (by with_unfolding_all rfl) (by with_unfolding_all rfl) (fun w => run_guardU w _ _ _ _ _) (fun w => HG1.out w) ?_); simp only [Act.put, List.setIfInBounds_toArray, List.set_cons_zero, List.set_cons_succ])
      | ((with_reducible refine wpQuiet_bin (by with_unfolding_all rfl) .eql 28 _ _ _ (by with_unfolding_all rfl) (.int .i64 ve) (.int .i64 ve) (.bool true) (by with_unfolding_all rfl) (by with_unfolding_all rfl) (fun w => run_guardE w _ _ _ _ _) (fun w => HG2.out w) ?_); simp only [Act.put, List.setIfInBounds_toArray, List.set_cons_zero, List.set_cons_succ])
      | ((with_reducible refine wpQuiet_bin (by with_unfolding_all rfl) .eql 27 _ _ _ (by with_unfolding_all rfl) (.int .u64 ((src : Nat) : Int)) (.int .u64 ((src : Nat) : Int)) (.bool true) (by with_unfolding_all rfl) (by with_unfolding_all rfl) (fun w => run_guardU w _ _ _ _ _) (fun w => HG3.out w) ?_); simp only [Act.put, List.setIfInBounds_toArray, List.set_cons_zero, List.set_cons_succ])
      | ((with_reducible refine wpQuiet_loadAll (by with_unfolding_all rfl) 23 _ (by with_unfolding_all rfl) gq3 (0) (by with_unfolding_all rfl) (u8s key) _ (fun w h => HSK.out w h) HU.out (by with_unfolding_all rfl) HI.out ?_); simp only [Act.put, List.setIfInBounds_toArray, List.set_cons_zero, List.set_cons_succ])
      | (go_big_quiet_step (exact fun _ => rfl))
    refine wpMix_qnil ?_)
  have HBz := Lib.hid (show Behind w0 z8 from hz8)
  clear hz0 hz1 hz2 hz3 hz4 hz5 hz6 hz7 hz8 hE50 hE53 hE59 hE62 hb50 hb53 hb59 hb62
  refine wpMix_nil ?_
  go_wp2_with fail
  go_ret
  exact ⟨by first | rfl | simp, Behind.trM HB0.out HBz.out⟩
end Go.Proofs.YtdfeiajdmmlllaaDoor
