/- The reference of layer 14: mark, bit. -/
import Derived.Test.YtcpnlojcmlldpaaFindsA
namespace Go.Proofs.Ytcpnlojcmlldpaa
open Go.RowKit Go.Maps Go.Sort

theorem ref_mark_num (x y : UInt8) : (256 * (x.toNat : Int) + (y.toNat : Int)).tmod 512 = (((x.toNat * 256 + y.toNat) % 512 : Nat) : Int) := by
  rw [Int.tmod_eq_emod_of_nonneg (by omega)]
  omega
set_option maxRecDepth 100000 in
set_option maxHeartbeats 400000 in
theorem refmark_any (k : List UInt8) (hk : k.length = 32) (i : Nat) (hi : i < 4) (w : World) :
    Calls Try.prog 33 #[.agg (u8s k).toArray, .int .i64 i] w fun e w' => e = .returned (.int .i64 (Hz.mark k i : Nat)) ∧ Below w.heap.size w w' := by
  have hik : (Try.prog.info? 23).map (·.size) = some (u8s k).toArray.size := by
    rw [List.size_toArray, u8s_len, hk]
    kernel_rfl
  have hat : At (w.alloc (.cells (u8s k).toArray 23)) w.heap.size 23 (u8s k) := At.newA w _ rfl
  obtain ⟨x, hx⟩ : ∃ x, x = Hz.byteAt k (2 * i) := ⟨_, rfl⟩
  obtain ⟨y, hy⟩ : ∃ y, y = Hz.byteAt k (2 * i + 1) := ⟨_, rfl⟩
  have c0 : (w.alloc (.cells (u8s k).toArray 23)).cell? ⟨w.heap.size, 2 * i, none⟩ = some (.int .u8 (x.toNat : Int)) := by rw [hx]; exact hat.cell' (u8s_get (by omega))
  have c1 : (w.alloc (.cells (u8s k).toArray 23)).cell? ⟨w.heap.size, 2 * i + 1, none⟩ = some (.int .u8 (y.toNat : Int)) := by rw [hy]; exact hat.cell' (u8s_get (by omega))
  have x1 := x.toNat_lt
  have y1 := y.toNat_lt
  have e1 : IntKind.i64.wrap (2 * (i : Int)) = ((2 * i : Nat) : Int) := by rw [IntKind.wrap_i64]; omega
  have e2 : IntKind.i64.wrap (((2 * i : Nat) : Int) + 1) = ((2 * i + 1 : Nat) : Int) := by rw [IntKind.wrap_i64]; omega
  have e3 : IntKind.i64.wrap (256 * (x.toNat : Int)) = 256 * (x.toNat : Int) := by rw [IntKind.wrap_i64]; omega
  have e4 : IntKind.i64.wrap (256 * (x.toNat : Int) + (y.toNat : Int)) = 256 * (x.toNat : Int) + (y.toNat : Int) := by rw [IntKind.wrap_i64]; omega
  have e5 : IntKind.i64.wrap (x.toNat : Int) = (x.toNat : Int) := by rw [IntKind.wrap_i64]; omega
  have e6 : IntKind.i64.wrap (y.toNat : Int) = (y.toNat : Int) := by rw [IntKind.wrap_i64]; omega
  have j1 : (0 : Int) ≤ ((2 * i : Nat) : Int) := by omega
  have j2 : ((2 * i : Nat) : Int) < 32 := by omega
  have j3 : (0 : Int) ≤ ((2 * i + 1 : Nat) : Int) := by omega
  have j4 : ((2 * i + 1 : Nat) : Int) < 32 := by omega
  have HXY := Lib.hid (And.intro hx hy)
  clear hx hy hat hk
  go_enter Try.func33, Try.ntmps33
  go_wp2_with fail
  go_quiet (fail)
  go_wp2_with fail
  go_ret
  refine ⟨ret_int ?_, below_drewN ((Below.refl _ _).alloc (Nat.le_refl _) _) nq⟩
  unfold Hz.mark
  rw [← HXY.out.1, ← HXY.out.2]
  omega
theorem bit_num (x : UInt8) (j : Nat) : (((x.toNat : Int) / 2 ^ j).tmod 2 == 1) = x.toNat.testBit j := by
  have e1 : (2 : Int) ^ j = ((2 ^ j : Nat) : Int) := by rw [Int.natCast_pow]; rfl
  rw [e1, ← Int.natCast_ediv, Nat.testBit_eq_decide_div_mod_eq]
  generalize x.toNat / 2 ^ j = q
  rw [Int.tmod_eq_emod_of_nonneg (Int.natCast_nonneg _), Bool.eq_iff_iff]
  simp only [beq_iff_eq, decide_eq_true_eq]
  omega
set_option maxRecDepth 100000 in
set_option maxHeartbeats 400000 in
theorem refbit_any (h : List UInt8) (hh : h.length = 64) (n : Nat) (hn : n < 512) (w : World) :
    Calls Try.prog 32 #[.agg (u8s h).toArray, .int .i64 n] w fun e w' => e = .returned (.bool (Hz.bit h n)) ∧ Below w.heap.size w w' := by
  have hik : (Try.prog.info? 26).map (·.size) = some (u8s h).toArray.size := by
    rw [List.size_toArray, u8s_len, hh]
    kernel_rfl
  have hat : At (w.alloc (.cells (u8s h).toArray 26)) w.heap.size 26 (u8s h) := At.newA w _ rfl
  obtain ⟨x, hx⟩ : ∃ x, x = Hz.byteAt h (n / 8) := ⟨_, rfl⟩
  have c0 : (w.alloc (.cells (u8s h).toArray 26)).cell? ⟨w.heap.size, n / 8, none⟩ = some (.int .u8 (x.toNat : Int)) := by rw [hx]; exact hat.cell' (u8s_get (by omega))
  have x1 := x.toNat_lt
  have q1 : ((n : Int)).tdiv 8 = ((n / 8 : Nat) : Int) := by rw [Int.tdiv_eq_ediv_of_nonneg (by omega)]; omega
  have q2 : ((n : Int)).tmod 8 = ((n % 8 : Nat) : Int) := by rw [Int.tmod_eq_emod_of_nonneg (by omega)]; omega
  have j1 : (0 : Int) ≤ ((n / 8 : Nat) : Int) := by omega
  have j2 : ((n / 8 : Nat) : Int) < 64 := by omega
  have j3 : (0 : Int) ≤ ((n % 8 : Nat) : Int) := by omega
  have HX := Lib.hid hx
  clear hx hat hh
  go_enter Try.func32, Try.ntmps32
  go_wp2_with fail
  go_ret
  refine ⟨ret_val ?_, (Below.refl _ _).alloc (Nat.le_refl _) _⟩
  show Value.bool _ = _
  rw [bit_num]
  unfold Hz.bit
  rw [← HX.out]
end Go.Proofs.Ytcpnlojcmlldpaa
