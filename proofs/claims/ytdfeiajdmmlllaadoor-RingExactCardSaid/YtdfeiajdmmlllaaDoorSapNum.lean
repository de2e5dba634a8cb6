/- Layer 1: a number's bytes: what Num computes. -/
import Derived.Test.YtdfeiajdmmlllaaDoorLibC
import Derived.Test.YtdfeiajdmmlllaaDoorShaB
import Derived.Test.YtdfeiajdmmlllaaDoorStampD
import Derived.Laws.IdiomStrings
import Derived.Deep.RegionHeld3
import Derived.Deep.Cut
namespace Go.Proofs.YtdfeiajdmmlllaaDoor
open Go.RowKit

namespace Sap
/-- how many bytes a number takes -/
def width : Nat → Nat → Nat
  | 0, _ => 0
  | f + 1, m => if m = 0 then 0 else width f (m / 256) + 1
/-- a number without its sign -/
def mag (n : Int) : Nat := if n < 0 then (-1 - n).toNat else n.toNat
/-- a number's bytes -/
def num (n : Int) : List UInt8 := UInt8.ofNat ((if n < 0 then 128 else 0) + width 8 (mag n)) :: Sha.bytes (width 8 (mag n)) (mag n)
theorem width_le (f m : Nat) : width f m ≤ f := by
  induction f generalizing m with
  | zero => exact Nat.le_refl _
  | succ f ih =>
    simp only [width]
    split
    · omega
    · have := ih (m / 256); omega
theorem width_pos (f : Nat) : ∀ (m j : Nat), m < 256 ^ f → (j < width f m ↔ 0 < m / 256 ^ j) := by
  induction f with
  | zero => intro m j h; simp at h; subst h; simp [width]
  | succ f ih =>
    intro m j h
    simp only [width]
    split
    · rename_i h0; subst h0; simp
    · rename_i h0
      cases j with
      | zero => simp; omega
      | succ j =>
        have h1 : m / 256 < 256 ^ f := by rw [Nat.pow_succ] at h; omega
        have := ih (m / 256) j h1
        rw [Nat.pow_succ, Nat.mul_comm, ← Nat.div_div_eq_div_mul, ← this]
        omega
theorem bytes_snoc_head (j m : Nat) : Sha.bytes (j + 1) m = UInt8.ofNat (m / 256 ^ j % 256) :: Sha.bytes j m := rfl
theorem mag_lt (n : Int) (h1 : -9223372036854775808 ≤ n) (h2 : n ≤ 9223372036854775807) : mag n < 9223372036854775808 := by
  unfold mag; split <;> omega
end Sap
/-- the last j of eight bytes of a number, zeros ahead of them -/
def tailed (m j : Nat) : List Value := List.replicate (8 - j) (.int .u8 0) ++ u8s (Sha.bytes j m)
theorem tailed_set (m j : Nat) (hj : j < 8) (v : Value) (hv : v = .int .u8 ((m / 256 ^ j % 256 : Nat) : Int)) : (tailed m j).set (7 - j) v = tailed m (j + 1) := by
  subst hv
  unfold tailed
  rw [show 8 - j = (7 - j) + 1 from by omega, List.replicate_succ', List.append_assoc, List.set_append_right _ _ (by simp)]
  have h2 : (UInt8.ofNat (m / 256 ^ j % 256)).toNat = m / 256 ^ j % 256 := by simp
  simp [u8s, Sap.bytes_snoc_head, show 8 - (j + 1) = 7 - j from by omega]
theorem tailed_length (m j : Nat) (hj : j ≤ 8) : (tailed m j).length = 8 := by
  rw [tailed, List.length_append, List.length_replicate, u8s_length, Sha.bytes_length]
  omega
theorem tailed_drop (m j : Nat) : (tailed m j).drop (8 - j) = u8s (Sha.bytes j m) := by
  unfold tailed
  rw [List.drop_append_of_le_length (by simp)]
  simp
theorem i64_not (n : Int) (h1 : -9223372036854775808 ≤ n) (h2 : n ≤ 9223372036854775807) : bits .xor .i64 (-1) n = -1 - n := by
  show IntKind.i64.wrap ((BitVec.ofInt 64 (-1) ^^^ BitVec.ofInt 64 n).toNat : Int) = _
  have e : BitVec.ofInt 64 (-1) = BitVec.allOnes 64 := by decide
  rw [e, BitVec.allOnes_xor, BitVec.toNat_not, BitVec.toNat_ofInt, IntKind.wrap_i64]
  omega
theorem sign_or (j : Nat) (hj : j ≤ 8) : IntKind.u8.wrap (bits .or .i64 128 (j : Int)) = ((128 + j : Nat) : Int) ∧ IntKind.u8.wrap (bits .or .i64 0 (j : Int)) = (j : Int) := by
  have : ∀ j : Fin 9, IntKind.u8.wrap (bits .or .i64 128 (j.val : Int)) = ((128 + j.val : Nat) : Int) ∧ IntKind.u8.wrap (bits .or .i64 0 (j.val : Int)) = (j.val : Int) := by decide +kernel
  exact this ⟨j, by omega⟩

theorem conv_tail {W : World} {D m j a : Nat} (h : At W D 58 (tailed m j)) (ha : a + j = 8) :
    (convert 44 9 (.slice (some (if 8 = a then ⟨D, 0, none⟩ else ⟨D, a, none⟩)) (8 - a) (8 - a))).run Tryd.prog W = .ok (.string ⟨(Sha.bytes j m).toArray⟩) W := by
  have hl : (Sha.bytes j m).length = 8 - a := by rw [Sha.bytes_length]; omega
  have hc : ∀ i (hi : i < (Sha.bytes j m).length), W.cell? ((if 8 = a then (⟨D, 0, none⟩ : Addr) else ⟨D, a, none⟩).add i) = some (.int .u8 ((Sha.bytes j m)[i].toNat : Int)) := by
    intro i hi
    have ha8 : ¬ 8 = a := by omega
    rw [if_neg ha8]
    have e : (⟨D, a, none⟩ : Addr).add i = ⟨D, a + i, none⟩ := by unfold Addr.add; split <;> simp_all
    rw [e]
    refine h.cell' ?_
    have hd := tailed_drop m j
    rw [show 8 - j = a from by omega] at hd
    rw [← List.getElem?_drop, hd]
    simp [u8s, List.getElem?_eq_getElem (show i < (Sha.bytes j m).length by omega)]
  have hr := run_convert_bytes_back (P := Tryd.prog) W 44 9 5 _ (8 - a) (Sha.bytes j m) Tryd.underlying44 Tryd.underlying5 Tryd.underlying9 hc
  rw [hl] at hr
  exact hr
theorem str_cons (x : UInt8) (l : List UInt8) : (⟨#[x]⟩ : ByteArray) ++ ⟨l.toArray⟩ = ⟨(x :: l).toArray⟩ := by
  apply ByteArray.ext
  simp [ByteArray.data_append]
theorem conv_one {W : World} {b : Nat} (x : Nat) (y : Int) (hx : x < 256) (hy : y = (x : Int)) (h : W.cell? ⟨b, 0, none⟩ = some (.int .u8 y)) :
    (convert 44 9 (.slice (some ⟨b, 0, none⟩) 1 1)).run Tryd.prog W = .ok (.string ⟨[UInt8.ofNat x].toArray⟩) W := by
  subst hy
  refine run_convert_bytes_back (P := Tryd.prog) W 44 9 5 ⟨b, 0, none⟩ 1 [UInt8.ofNat x] Tryd.underlying44 Tryd.underlying5 Tryd.underlying9 fun i hi => ?_
  have hi0 : i = 0 := by simpa using hi
  subst hi0
  have h2 : (UInt8.ofNat x).toNat = x := by simp; omega
  simpa [Addr.add, h2] using h

set_option maxRecDepth 100000 in
set_option maxHeartbeats 1000000 in
theorem num_any (n : Int) (h1 : -9223372036854775808 ≤ n) (h2 : n ≤ 9223372036854775807) (w : World) :
    Calls Tryd.prog 19 #[.int .i64 n] w fun e w' => e = .returned (.string ⟨(Sap.num n).toArray⟩) ∧ Below w.heap.size w w' := by
  have hm := Sap.mag_lt n h1 h2
  obtain ⟨m, hme⟩ : ∃ m, m = Sap.mag n := ⟨_, rfl⟩
  rw [← hme] at hm
  have hD : At (w.alloc (.cells #[.int .u8 0, .int .u8 0, .int .u8 0, .int .u8 0, .int .u8 0, .int .u8 0, .int .u8 0, .int .u8 0] 58)) w.heap.size 58 (tailed m 0) := At.newA _ _ rfl
  have hB1 : Below w.heap.size w (w.alloc (.cells #[.int .u8 0, .int .u8 0, .int .u8 0, .int .u8 0, .int .u8 0, .int .u8 0, .int .u8 0, .int .u8 0] 58)) := (Below.refl _ _).alloc (Nat.le_refl _) _
  have HD := Lib.hid hD
  have HB1 := Lib.hid hB1
  clear hD hB1
  have H8 : Hid (∀ j, j < Sap.width 8 m ↔ 0 < m / 256 ^ j) := Lib.hid (fun j => Sap.width_pos 8 m j (by omega))
  have HW8 := Sap.width_le 8 m
  by_cases hneg : n < 0
  · have hmn : bits .xor .i64 (-1) n = (m : Int) := by
      rw [i64_not n h1 h2, hme]; unfold Sap.mag; rw [if_pos hneg]; omega
    have HME := Lib.hid hme
    clear hme
    go_enter Tryd.func19, Tryd.ntmps19
    go_wp2_with fail
    clear hmn
    go_loopw [0, 5] (fun x i wr => ∃ j a : Nat, j ≤ Sap.width 8 m ∧ a + j = 8 ∧ x = .int .i64 ((m / 256 ^ j : Nat) : Int) ∧ i = .int .i64 a ∧ At wr w.heap.size 58 (tailed m j) ∧ Below w.heap.size w wr) (fun _ i _ => (intOf i).toNat)
    case atStart => exact ⟨0, 8, by omega, rfl, by simp, rfl, HD.out, HB1.out⟩
    case round =>
      obtain ⟨j, a, hj, ha, rfl, rfl, hat, hb⟩ := hrel
      obtain ⟨q, hq⟩ : ∃ q, q = m / 256 ^ j := ⟨_, rfl⟩
      rw [← hq]
      have hpos : j < Sap.width 8 m ↔ 0 < q := by rw [hq]; exact H8.out j
      by_cases hlt : j < Sap.width 8 m
      · have hq0 : (0 : Int) < (q : Int) := by omega
        have hqm : q ≤ m := by rw [hq]; exact Nat.div_le_self _ _
        have i1 : (1 : Int) ≤ (a : Int) := by omega
        have i2 : (a : Int) ≤ 8 := by omega
        have hc := hat.cell' (i := a - 1) (v := .int .u8 0) (by
          unfold tailed
          rw [List.getElem?_append_left (by simp; omega), List.getElem?_replicate, if_pos (by omega)])
        have hf := hat.frozen (a - 1)
        have HA := Lib.hid hat
        have HB := Lib.hid hb
        have HQ := Lib.hid hq
        clear hat hb hq hpos
        go_wp2_with fail
        go_roundw
        case rel =>
          refine ⟨j + 1, a - 1, by omega, by omega, ?_, by go_num, ?_, HB.out.setCell (Nat.le_refl _) _⟩
          · rw [Nat.pow_succ, ← Nat.div_div_eq_div_mul, ← HQ.out]
            rfl
          · rw [← tailed_set m j (by omega) (.int .u8 ((q : Int) % 256)) (by rw [← HQ.out]; simp), show a - 1 = 7 - j from by omega]
            exact HA.out.set _ _
        case measure => simp [intOf]; omega
      · have hjw : j = Sap.width 8 m := by omega
        have hq0 : q = 0 := by omega
        have HA := Lib.hid hat
        have HB := Lib.hid hb
        have HQ := Lib.hid (And.intro hq hq0)
        have hq1 : (q : Int) ≤ 0 := by omega
        have i1 : (0 : Int) ≤ (a : Int) := by omega
        have i2 : (a : Int) ≤ 8 := by omega
        have hw1 : IntKind.i64.wrap (8 - (a : Int)) = (j : Int) := by rw [IntWalk.i64_in _ (by omega)]; omega
        have hor := (sign_or j (by omega)).1
        have HJ := Lib.hid hjw
        clear hat hb hq hpos hq0 hjw
        have hc6 := conv_one (W := (wr.alloc (.cells #[.int .u8 (128 + (j : Int))] 5)).drew) (b := wr.heap.size) (128 + j) (128 + (j : Int)) (by omega) (by omega) (by simp [go_sem])
        have hc9a := conv_tail HA.out.drew ha
        have hc9b := conv_tail (HA.out.alloc (.cells #[.int .u8 (128 + (j : Int))] 5)).drew ha
        have hnl : ¬ 9223372036854775807 < 1 + (Sha.bytes j m).length := by rw [Sha.bytes_length]; omega
        go_wp2_with fail
        go_region
        all_goals go_wp2_with fail
        all_goals
          go_ret
          refine ⟨?_, (HB.out.alloc (Nat.le_of_lt HA.out.lt) _).drew⟩
          have hnum : Sap.num n = (128 + UInt8.ofNat j) :: Sha.bytes j m := by
            rw [Sap.num, if_pos hneg, ← HME.out, ← HJ.out, UInt8.ofNat_add]
            rfl
          rw [hnum, ← str_cons]
          rfl
  · have hmn : n = (m : Int) := by rw [hme]; unfold Sap.mag; rw [if_neg hneg]; omega
    have HME := Lib.hid hme
    clear hme
    subst hmn
    go_enter Tryd.func19, Tryd.ntmps19
    go_wp2_with fail
    go_loopw [0, 5] (fun x i wr => ∃ j a : Nat, j ≤ Sap.width 8 m ∧ a + j = 8 ∧ x = .int .i64 ((m / 256 ^ j : Nat) : Int) ∧ i = .int .i64 a ∧ At wr w.heap.size 58 (tailed m j) ∧ Below w.heap.size w wr) (fun _ i _ => (intOf i).toNat)
    case atStart => exact ⟨0, 8, by omega, rfl, by simp, rfl, HD.out, HB1.out⟩
    case round =>
      obtain ⟨j, a, hj, ha, rfl, rfl, hat, hb⟩ := hrel
      obtain ⟨q, hq⟩ : ∃ q, q = m / 256 ^ j := ⟨_, rfl⟩
      rw [← hq]
      have hpos : j < Sap.width 8 m ↔ 0 < q := by rw [hq]; exact H8.out j
      by_cases hlt : j < Sap.width 8 m
      · have hq0 : (0 : Int) < (q : Int) := by omega
        have hqm : q ≤ m := by rw [hq]; exact Nat.div_le_self _ _
        have i1 : (1 : Int) ≤ (a : Int) := by omega
        have i2 : (a : Int) ≤ 8 := by omega
        have hc := hat.cell' (i := a - 1) (v := .int .u8 0) (by
          unfold tailed
          rw [List.getElem?_append_left (by simp; omega), List.getElem?_replicate, if_pos (by omega)])
        have hf := hat.frozen (a - 1)
        have HA := Lib.hid hat
        have HB := Lib.hid hb
        have HQ := Lib.hid hq
        clear hat hb hq hpos
        go_wp2_with fail
        go_roundw
        case rel =>
          refine ⟨j + 1, a - 1, by omega, by omega, ?_, by go_num, ?_, HB.out.setCell (Nat.le_refl _) _⟩
          · rw [Nat.pow_succ, ← Nat.div_div_eq_div_mul, ← HQ.out]
            rfl
          · rw [← tailed_set m j (by omega) (.int .u8 ((q : Int) % 256)) (by rw [← HQ.out]; simp), show a - 1 = 7 - j from by omega]
            exact HA.out.set _ _
        case measure => simp [intOf]; omega
      · have hjw : j = Sap.width 8 m := by omega
        have hq0 : q = 0 := by omega
        have HA := Lib.hid hat
        have HB := Lib.hid hb
        have HQ := Lib.hid (And.intro hq hq0)
        have hq1 : (q : Int) ≤ 0 := by omega
        have i1 : (0 : Int) ≤ (a : Int) := by omega
        have i2 : (a : Int) ≤ 8 := by omega
        have hw1 : IntKind.i64.wrap (8 - (a : Int)) = (j : Int) := by rw [IntWalk.i64_in _ (by omega)]; omega
        have hor := (sign_or j (by omega)).2
        have HJ := Lib.hid hjw
        clear hat hb hq hpos hq0 hjw
        have hc6 := conv_one (W := (wr.alloc (.cells #[.int .u8 (j : Int)] 5)).drew) (b := wr.heap.size) j (j : Int) (by omega) (by omega) (by simp [go_sem])
        have hc9a := conv_tail HA.out.drew ha
        have hc9b := conv_tail (HA.out.alloc (.cells #[.int .u8 (j : Int)] 5)).drew ha
        have hnl : ¬ 9223372036854775807 < 1 + (Sha.bytes j m).length := by rw [Sha.bytes_length]; omega
        go_wp2_with fail
        go_region
        all_goals go_wp2_with fail
        all_goals
          go_ret
          refine ⟨?_, (HB.out.alloc (Nat.le_of_lt HA.out.lt) _).drew⟩
          have hnum : Sap.num (m : Int) = UInt8.ofNat j :: Sha.bytes j m := by
            have hng : ¬ ((m : Int) < 0) := by omega
            rw [Sap.num, if_neg hng, ← HME.out, ← HJ.out, Nat.zero_add]
          rw [hnum, ← str_cons]
          rfl
end Go.Proofs.YtdfeiajdmmlllaaDoor
