/- The reference of layer 14: Count, Has. -/
import Derived.Test.YtcpnlojcmlldpaaRefHA
namespace Go.Proofs.Ytcpnlojcmlldpaa
open Go.RowKit Go.Maps Go.Sort

namespace Hz
def countTo (h : List UInt8) (n : Nat) : Nat := ((List.range n).filter fun m => bit h m).length
theorem countTo_succ (h : List UInt8) (n : Nat) : countTo h (n + 1) = countTo h n + if bit h n = true then 1 else 0 := by
  unfold countTo
  rw [List.range_succ, List.filter_append, List.length_append]
  cases hb : bit h n <;> simp [hb]
theorem countTo_le (h : List UInt8) (n : Nat) : countTo h n ≤ n := by
  have := List.length_filter_le (fun m => bit h m) (List.range n)
  rwa [List.length_range] at this
theorem countTo_all {h : List UInt8} (hl : h.length = 64) : countTo h 512 = count h := by
  rw [count_bits hl]
  rfl
theorem has_four {h : List UInt8} (hl : h.length = 64) (k : List UInt8) : has h k = (bit h (mark k 0) && (bit h (mark k 1) && (bit h (mark k 2) && bit h (mark k 3)))) := by
  rw [Bool.eq_iff_iff, has_iff hl]
  simp [marks]
end Hz
set_option maxRecDepth 100000 in
set_option maxHeartbeats 400000 in
theorem refcount_any (h : List UInt8) (hh : h.length = 64) (w : World) :
    Calls Try.prog 26 #[.agg (u8s h).toArray] w fun e w' => e = .returned (.int .i64 (Hz.count h : Nat)) ∧ Below w.heap.size w w' := by
  have hik : (Try.prog.info? 26).map (·.size) = some (u8s h).toArray.size := by
    rw [List.size_toArray, u8s_len, hh]
    kernel_rfl
  have hat : At (w.alloc (.cells (u8s h).toArray 26)) w.heap.size 26 (u8s h) := At.newA w _ rfl
  have HUH := Lib.hid Try.underlying26
  have HIH := Lib.hid (HaveHzInfo hh)
  have HL := Lib.hid hh
  have HA := Lib.hid hat
  clear hat hh
  go_enter Try.func26, Try.ntmps26
  go_wp2_with fail
  go_loopw [3, 4] (fun c i wr => ∃ n : Nat, n ≤ 512 ∧ i = .int .i64 n ∧ c = .int .i64 (Hz.countTo h n : Nat) ∧ At wr w.heap.size 26 (u8s h) ∧ Below w.heap.size w wr) (fun _ i _ => 512 - (RowKit.intOf i).toNat)
  case atStart => exact ⟨0, by omega, rfl, rfl, HA.out, (Below.refl _ _).alloc (Nat.le_refl _) _⟩
  case round =>
    obtain ⟨n, hn, rfl, rfl, hat, hb⟩ := hrel
    have hcl := Hz.countTo_le h n
    obtain ⟨c, hc⟩ : ∃ c, c = Hz.countTo h n := ⟨_, rfl⟩
    rw [← hc] at hcl ⊢
    have HC := Lib.hid hc
    have HA2 := Lib.hid hat
    have HB2 := Lib.hid hb
    clear hc hat hb
    by_cases hlt : n < 512
    · go_wp2_with (first
        | (with_reducible refine wpList_loadAll rfl 26 (.tmp 1) rfl _ rfl _ _ _ HA2.out HUH.out rfl HIH.out ?_))
      refine (refbit_any h HL.out n hlt _).mono ?_
      rintro e w2 ⟨rfl, hb⟩
      have HA3 := Lib.hid (HA2.out.below hb HA2.out.lt)
      have HB3 := Lib.hid (HB2.out.trans (hb.mono HB2.out.size))
      clear hb
      cases hbit : Hz.bit h n
      · have HE := Lib.hid (show Hz.countTo h (n + 1) = c by rw [Hz.countTo_succ, hbit, HC.out]; rfl)
        clear hbit
        go_wp2_with fail
        go_roundw
        case rel => exact ⟨n + 1, by omega, by go_num, by rw [HE.out], HA3.out, HB3.out⟩
        case measure => simp [RowKit.intOf]; omega
      · have HE := Lib.hid (show Hz.countTo h (n + 1) = c + 1 by rw [Hz.countTo_succ, hbit, HC.out]; rfl)
        clear hbit
        go_wp2_with fail
        go_roundw
        case rel => exact ⟨n + 1, by omega, by go_num, by rw [HE.out]; go_num, HA3.out, HB3.out⟩
        case measure => simp [RowKit.intOf]; omega
    · have hnn : n = 512 := by omega
      have HE := Lib.hid (show c = Hz.count h by rw [HC.out, hnn, Hz.countTo_all HL.out])
      clear hnn
      go_wp2_with fail
      go_ret
      exact ⟨by rw [← HE.out]; rfl, HB2.out⟩
end Go.Proofs.Ytcpnlojcmlldpaa
