/- Layer 13: isNode, Place: what they compute. -/
import Derived.Test.YtdfeiajdmmlllaaDoorRingP
import Derived.Test.YtdfeiajdmmlllaaDoorStampH
import Derived.Test.YtdfeiajdmmlllaaDoorEncA
import Derived.Deep.LoopGhost
namespace Go.Proofs.YtdfeiajdmmlllaaDoor
open Go.Proofs Stab Go.Shelf Go.RowKit Go.Lib Go.Sort

/-- what lay in a world lies in the other -/
def Behind (w0 w : World) : Prop := Below w0.heap.size w0 w
theorem Behind.refl (w : World) : Behind w w := Below.refl _ _
theorem Behind.trans' {a b c : World} (h : Behind a b) (k : Below b.heap.size b c) : Behind a c := Below.trans h (Below.mono k (Below.size h))
theorem Behind.trM {a b c : World} (h : Behind a b) (k : Behind b c) : Behind a c := Behind.trans' h k
theorem isnode_any (n : Int) (w : World) : Calls Tryd.prog 18 #[.int .i64 n] w fun e w' => e = .returned (.bool (decide (1 ≤ n ∧ n ≤ 6))) ∧ w = w' := by
  by_cases h1 : 1 ≤ n
  · by_cases h6 : n ≤ 6
    · rw [decide_eq_true ⟨h1, h6⟩]
      go_enter Tryd.func18, Tryd.ntmps18
      go_wp2_with fail
      go_ret
      exact ⟨rfl, rfl⟩
    · rw [decide_eq_false (fun h => h6 h.2)]
      go_enter Tryd.func18, Tryd.ntmps18
      go_wp2_with fail
      go_ret
      exact ⟨rfl, rfl⟩
  · rw [decide_eq_false (fun h => h1 h.1)]
    go_enter Tryd.func18, Tryd.ntmps18
    go_wp2_with fail
    go_ret
    exact ⟨rfl, rfl⟩
theorem walk1_any (n : Int) (w : World) : Calls Tryd.prog 26 #[.int .i64 n] w fun e w' => e = .returned (.bool (!decide (1 ≤ n ∧ n ≤ 6))) ∧ w = w' := by
  have H := Lib.hid (isnode_any n w)
  cases hd : decide (1 ≤ n ∧ n ≤ 6) <;> rw [hd] at H <;> clear hd
  all_goals
    go_enter Tryd.func26, Tryd.ntmps26
    go_wp2_with (go_at_call 18; refine Calls.mono H.out ?_; rintro e w' ⟨rfl, rfl⟩)
    go_ret
    exact ⟨rfl, rfl⟩
theorem ofInt_u64 (a : Nat) (ha : a < 18446744073709551616) : (BitVec.ofInt 64 (a : Int)).toNat = a := by
  rw [BitVec.ofInt_natCast, BitVec.toNat_ofNat]; exact Nat.mod_eq_of_lt (by omega)
theorem u64_or_nat (a b : Nat) (ha : a < 18446744073709551616) (hb : b < 18446744073709551616) : bits .or .u64 (a : Int) (b : Int) = ((a ||| b : Nat) : Int) := by
  have hx : a ||| b < 2 ^ 64 := Nat.or_lt_two_pow (by omega) (by omega)
  show IntKind.u64.wrap ((BitVec.ofInt 64 (a : Int) ||| BitVec.ofInt 64 (b : Int)).toNat : Int) = _
  rw [BitVec.toNat_or, ofInt_u64 a ha, ofInt_u64 b hb]
  rw [IntKind.wrap_u64]
  omega
theorem place_step (n : Nat) (b : UInt8) (hn : n < 72057594037927936) : bits .or .u64 ((n : Int) * 256) (b.toNat : Int) = ((n * 256 + b.toNat : Nat) : Int) := by
  have hb := b.toNat_lt
  have e1 : (n : Int) * 256 = ((n * 256 : Nat) : Int) := by omega
  have e3 := Nat.shiftLeft_add_eq_or_of_lt (i := 8) (b := b.toNat) (by omega) n
  rw [Nat.shiftLeft_eq] at e3
  rw [e1, u64_or_nat _ _ (by omega) (by omega), ← e3]
def placeK (l : List UInt8) (k : Nat) : Nat := (l.take k).foldl (fun n b => n * 256 + b.toNat) 0
theorem placeK_succ (l : List UInt8) (k : Nat) (hk : k < l.length) : placeK l (k + 1) = placeK l k * 256 + l[k].toNat := by
  unfold placeK
  rw [List.take_succ_eq_append_getElem hk, List.foldl_append]
  rfl
theorem placeK_lt (l : List UInt8) (k : Nat) (hk : k < 8) : placeK l k < 72057594037927936 := by
  have h := fold_place (l.take k) 0 0 (by decide)
  have h2 : 256 ^ (0 + (l.take k).length) ≤ 256 ^ 7 := Nat.pow_le_pow_right (by decide) (by rw [List.length_take]; omega)
  have e : (256 : Nat) ^ 7 = 72057594037927936 := by decide
  unfold placeK
  omega
set_option maxRecDepth 100000 in
set_option maxHeartbeats 1000000 in
theorem place_any (k : List UInt8) (hk : k.length = 32) (w : World) : Calls Tryd.prog 10 #[.agg (u8s k).toArray] w fun e w' => e = .returned (.int .u64 (placeR k)) ∧ Below w.heap.size w w' := by
  have h1 : At (w.alloc (.cells (u8s k).toArray 23)) w.heap.size 23 (u8s k) := At.new w _ _
  have hb : Below w.heap.size w (w.alloc (.cells (u8s k).toArray 23)) := (Below.refl _ _).alloc (Nat.le_refl _) _
  have H1 := Lib.hid h1
  have HB := Lib.hid hb
  have HK := Lib.hid hk
  clear h1 hb hk
  go_enter Tryd.func10, Tryd.ntmps10
  go_upto_region 1 with fail
  obtain ⟨g, hg⟩ : ∃ g, g = w.heap.size := ⟨_, rfl⟩
  rw [← hg] at H1 ⊢
  clear hg
  generalize w.alloc (.cells (u8s k).toArray 23) = w1 at H1 HB ⊢
  go_wp2_with fail
  go_loopg [2, 7] 8 (fun gg s2 s7 wr => ∃ i n : Nat, s2 = .int .u64 n ∧ s7 = .int .i64 i ∧ i ≤ 8 ∧ 8 - i ≤ gg ∧ Hid (n = placeK k i) ∧ wr = w1)
  case atStart => exact ⟨0, 0, rfl, rfl, Nat.zero_le _, by omega, (show Hid _ from rfl), rfl⟩
  case round =>
    obtain ⟨i, n, rfl, rfl, hi, hgg, HN, rfl⟩ := hrel
    by_cases hlt : i < 8
    · have hltz : (i : Int) < 8 := by omega
      have i0 : (0 : Int) ≤ (i : Int) := by omega
      have hil : i < k.length := by have := HK.out; omega
      obtain ⟨x, hx⟩ : ∃ x, x = k[i] := ⟨_, rfl⟩
      have hc : wr.cell? ⟨g, 0 + i, none⟩ = some (.int .u8 (x.toNat : Int)) := by
        rw [Nat.zero_add]
        refine H1.out.cell' ?_
        simp [u8s, hil, hx]
      rw [Nat.zero_add] at hc
      have hn7 := placeK_lt k i hlt
      rw [← HN.out] at hn7
      have hor := place_step n x hn7
      have hnx : n * 256 + x.toNat = placeK k (i + 1) := by rw [placeK_succ k i hil, ← HN.out, hx]
      have hx8 := x.toNat_lt
      have HNX := Lib.hid hnx
      clear hx hnx
      go_wp2_with fail
      go_roundg (8 - (i + 1))
      case measure => omega
      case rel => exact ⟨i + 1, n * 256 + x.toNat, congrArg (Value.int .u64) (by omega), by go_num, by omega, Nat.le_refl _, HNX.out, rfl⟩
    · have hi8 : i = 8 := by omega
      subst hi8
      have hltz : ¬ ((8 : Nat) : Int) < 8 := by omega
      go_wp2_with fail
      go_ret
      exact ⟨by rw [HN.out]; rfl, HB.out⟩
end Go.Proofs.YtdfeiajdmmlllaaDoor
