/- Layer 13: Point, near: what they compute. -/
import Derived.Test.YtdfeiajdmmlllaaDoorRingA
namespace Go.Proofs.YtdfeiajdmmlllaaDoor
open Go.Proofs Stab Go.Shelf Go.RowKit Go.Lib Go.Sort

theorem three_strs (w : World) (s t u : ByteArray) (p : Nat) (hp : w.heap.size ≠ p) : StrsAt (w.alloc (.cells #[.string s, .string t, .string u] 9)) (some ⟨w.heap.size, 0, none⟩) [s, t, u] p := fun _ =>
  ⟨_, rfl, hp, by simp, fun i hi => by
    have h := At.new w 9 [.string s, .string t, .string u]
    have e : (⟨w.heap.size, 0, none⟩ : Addr).add i = ⟨w.heap.size, i, none⟩ := by unfold Addr.add; split <;> simp_all
    rw [e]
    refine h.cell' ?_
    match i, hi with
    | 0, _ => rfl
    | 1, _ => rfl
    | 2, _ => rfl⟩
theorem sha_length13 (l : List UInt8) : (Sha.sha l).length = 32 := digest_length _
/-- Row at three texts that the call lays itself -/
theorem row_three (s t u : List UInt8) (hs : s.length < 1000) (ht : t.length < 1000) (hu : u.length < 1000) (w : World) (hw : Tab w 0 (u32s Sha.words)) :
    Calls Tryd.prog 17 #[.slice (some ⟨w.heap.size, 0, none⟩) 3 3] (w.alloc (.cells #[.string ⟨s.toArray⟩, .string ⟨t.toArray⟩, .string ⟨u.toArray⟩] 9)) fun e w' => e = .returned (.agg (u8s (Sha.sha (Sap.row [s, t, u]))).toArray) ∧ Below w.heap.size w w' := by
  have hb1 : Below w.heap.size w (w.alloc (.cells #[.string ⟨s.toArray⟩, .string ⟨t.toArray⟩, .string ⟨u.toArray⟩] 9)) := (Below.refl _ _).alloc (Nat.le_refl _) _
  have hfl : (flat [(⟨s.toArray⟩ : ByteArray), ⟨t.toArray⟩, ⟨u.toArray⟩]).length < 1099511627776 := by simp [flat]; omega
  have := row_any (some ⟨w.heap.size, 0, none⟩) 3 [⟨s.toArray⟩, ⟨t.toArray⟩, ⟨u.toArray⟩] (w.alloc (.cells #[.string ⟨s.toArray⟩, .string ⟨t.toArray⟩, .string ⟨u.toArray⟩] 9)) (three_strs w _ _ _ _ (by simp)) hfl (by simp) (hw.below hb1 hw.lt)
  exact this.mono fun e w' ⟨he, hb2⟩ => ⟨he, hb1.trans (hb2.mono hb1.size)⟩
set_option maxRecDepth 100000 in
set_option maxHeartbeats 1000000 in
theorem point_good (node n : Int) (h1 : 1 ≤ node ∧ node ≤ 6) (h2 : 0 ≤ n ∧ n < 8) (w : World) (hwd : Tab w 0 (u32s Sha.words)) :
    Calls Tryd.prog 8 #[.int .i64 node, .int .i64 n] w fun e w' => e = .returned (.tuple #[.int .u64 (pointR node n), .int .i64 0]) ∧ Below w.heap.size w w' := by
  have hI := isnode_any node
  rw [decide_eq_true h1] at hI
  have HI := Lib.hid hI
  have HW := Lib.hid hwd
  have n0 := h2.1
  have n8 : ¬ 8 ≤ n := by omega
  have H1 := Lib.hid h1
  have l1 := Sap.num_length node
  have l2 := Sap.num_length n
  have HP := Lib.hid (show ∀ W, Behind w W → Calls Tryd.prog 17 #[.slice (some ⟨W.heap.size, 0, none⟩) 3 3] (W.alloc (.cells #[.string ⟨#[114, 105, 110, 103]⟩, .string ⟨(Sap.num node).toArray⟩, .string ⟨(Sap.num n).toArray⟩] 9)) fun e w' => e = .returned (.agg (u8s (Sha.sha (pointText node n))).toArray) ∧ Below W.heap.size W w' from fun W hW => row_three ringB _ _ (by decide) (by omega) (by omega) W (HW.out.below hW HW.out.lt))
  have HPL := Lib.hid (show ∀ W, Calls Tryd.prog 10 #[.agg (u8s (Sha.sha (pointText node n))).toArray] W fun e w' => e = .returned (.int .u64 (pointR node n)) ∧ Below W.heap.size W w' from fun W => place_any _ (sha_length13 _) W)
  clear hI hwd h1 l1 l2
  go_enter Tryd.func8, Tryd.ntmps8
  go_wp2_with (first
    | (go_at_call 18; (with_reducible refine Calls.mono (HI.out _) ?_); rintro e w' ⟨rfl, rfl⟩)
    | (go_at_call 19; (with_reducible refine Calls.mono (num_any node (by have := H1.out; omega) (by have := H1.out; omega) w) ?_); rintro e w1 ⟨rfl, hb⟩; have HB1 := Lib.hid (show Behind w w1 from hb); clear hb)
    | (go_at_call 19; (with_reducible refine Calls.mono (num_any n (by omega) (by omega) w1) ?_); rintro e w2 ⟨rfl, hb⟩; have HB2 := Lib.hid (show Behind w w2 from HB1.out.trans (hb.mono HB1.out.size)); clear hb)
    | (go_at_call 17; (with_reducible refine Calls.mono (HP.out w2 HB2.out) ?_); rintro e w3 ⟨rfl, hb⟩; have HB3 := Lib.hid (show Behind w w3 from HB2.out.trans (hb.mono HB2.out.size)); clear hb)
    | (go_at_call 10; (with_reducible refine Calls.mono (HPL.out _) ?_); rintro e w4 ⟨rfl, hb⟩; have HB4 := Lib.hid (show Behind w w4 from HB3.out.trans (hb.mono HB3.out.size)); clear hb))
  go_ret2
  exact ⟨rfl, HB4.out⟩
set_option maxHeartbeats 1000000 in
theorem point_bad (node n : Int) (h : ¬ ((1 ≤ node ∧ node ≤ 6) ∧ 0 ≤ n ∧ n < 8)) (w : World) :
    Calls Tryd.prog 8 #[.int .i64 node, .int .i64 n] w fun e w' => e = .returned (.tuple #[.int .u64 0, .int .i64 1]) ∧ Below w.heap.size w w' := by
  have HI := Lib.hid (isnode_any node)
  cases hd : decide (1 ≤ node ∧ node ≤ 6) with
  | false =>
    rw [hd] at HI
    clear hd h
    go_enter Tryd.func8, Tryd.ntmps8
    go_wp2_with (go_at_call 18; (with_reducible refine Calls.mono (HI.out _) ?_); rintro e w' ⟨rfl, rfl⟩)
    go_ret2
    exact ⟨rfl, Below.refl _ _⟩
  | true =>
    rw [hd] at HI
    have h1 := of_decide_eq_true hd
    by_cases n0 : n < 0
    · clear hd h h1
      go_enter Tryd.func8, Tryd.ntmps8
      go_wp2_with (go_at_call 18; (with_reducible refine Calls.mono (HI.out _) ?_); rintro e w' ⟨rfl, rfl⟩)
      go_ret2
      exact ⟨rfl, Below.refl _ _⟩
    · have n8 : 8 ≤ n := by omega
      have n0' : ¬ n < 0 := n0
      clear hd h h1
      go_enter Tryd.func8, Tryd.ntmps8
      go_wp2_with (go_at_call 18; (with_reducible refine Calls.mono (HI.out _) ?_); rintro e w' ⟨rfl, rfl⟩)
      go_ret2
      exact ⟨rfl, Below.refl _ _⟩
theorem gap_wrap (src : Nat) (node : Int) (n : Nat) (hs : src < 18446744073709551616) : IntKind.u64.wrap ((pointR node n : Int) - (src : Int)) = ((gapR src node n : Nat) : Int) := by
  rw [IntKind.wrap_u64]
  have := place_lt (Sha.sha (pointText node n))
  unfold gapR
  have e : pointR node n = placeR (Sha.sha (pointText node n)) := rfl
  omega
set_option maxRecDepth 100000 in
set_option maxHeartbeats 1000000 in
theorem near_any (src : Nat) (hs : src < 18446744073709551616) (node : Int) (h1 : 1 ≤ node ∧ node ≤ 6) (w : World) (hwd : Tab w 0 (u32s Sha.words)) :
    Calls Tryd.prog 27 #[.int .u64 src, .int .i64 node] w fun e w' => e = .returned (.int .u64 (nearR src node)) ∧ Below w.heap.size w w' := by
  have HP := Lib.hid (show ∀ (k : Nat) W, k < 8 → Behind w W → Calls Tryd.prog 8 #[.int .i64 node, .int .i64 k] W fun e w' => e = .returned (.tuple #[.int .u64 (pointR node k), .int .i64 0]) ∧ Below W.heap.size W w' from fun k W hk hW => point_good node k h1 (by omega) W (hwd.below hW hwd.lt))
  have HG := Lib.hid (show ∀ k : Nat, IntKind.u64.wrap ((pointR node k : Int) - (src : Int)) = ((gapR src node k : Nat) : Int) from fun k => gap_wrap src node k hs)
  clear hwd h1
  go_enter Tryd.func27, Tryd.ntmps27
  go_wp2_with fail
  go_loopg [5, 9] 8 (fun gg s5 s9 wr => ∃ k best : Nat, s5 = .int .u64 best ∧ s9 = .int .i64 k ∧ k ≤ 8 ∧ 8 - k ≤ gg ∧ Hid (best = nearK src node k) ∧ Hid (Behind w wr))
  case atStart => exact ⟨0, 18446744073709551615, rfl, rfl, Nat.zero_le _, by omega, (show Hid _ from rfl), (show Hid _ from Below.refl _ _)⟩
  case round =>
    obtain ⟨k, best, rfl, rfl, hk, hgg, HN, HB⟩ := hrel
    by_cases hlt : k < 8
    · have hltz : (k : Int) < 8 := by omega
      obtain ⟨p, hp⟩ : ∃ p, p = pointR node k := ⟨_, rfl⟩
      obtain ⟨g, hg⟩ : ∃ g, g = gapR src node k := ⟨_, rfl⟩
      have HPK := Lib.hid (HP.out k wr hlt HB.out)
      have hgw := HG.out k
      rw [← hp] at hgw HPK
      rw [← hg] at hgw
      have hnx := nearK_succ src node k
      rw [← HN.out, ← hg] at hnx
      have HNX := Lib.hid hnx
      clear hp hg hnx
      by_cases hle : best ≤ g
      · have hz : (best : Int) ≤ (g : Int) := by omega
        have hm : min (best : Int) (g : Int) = (best : Int) := by omega
        have HM := Lib.hid (show best = nearK src node (k + 1) by rw [HNX.out]; omega)
        go_wp2_with (go_at_call 8; (with_reducible refine Calls.mono HPK.out ?_); rintro e w1 ⟨rfl, hb⟩; have HB1 := Lib.hid (show Behind w w1 from HB.out.trans (hb.mono HB.out.size)); clear hb)
        go_roundg (8 - (k + 1))
        case measure => omega
        case rel => exact ⟨k + 1, best, rfl, by go_num, by omega, Nat.le_refl _, HM.out, HB1.out⟩
      · have hz : ¬ (best : Int) ≤ (g : Int) := by omega
        have hm : min (best : Int) (g : Int) = (g : Int) := by omega
        have HM := Lib.hid (show g = nearK src node (k + 1) by rw [HNX.out]; omega)
        go_wp2_with (go_at_call 8; (with_reducible refine Calls.mono HPK.out ?_); rintro e w1 ⟨rfl, hb⟩; have HB1 := Lib.hid (show Behind w w1 from HB.out.trans (hb.mono HB.out.size)); clear hb)
        go_roundg (8 - (k + 1))
        case measure => omega
        case rel => exact ⟨k + 1, g, rfl, by go_num, by omega, Nat.le_refl _, HM.out, HB1.out⟩
    · have hk8 : k = 8 := by omega
      subst hk8
      have hltz : ¬ ((8 : Nat) : Int) < 8 := by omega
      go_wp2_with fail
      go_ret
      exact ⟨by rw [HN.out]; rfl, HB.out⟩
end Go.Proofs.YtdfeiajdmmlllaaDoor
