/- Layer 14: Count. -/
import Derived.Shelf.Lay
import Derived.Shelf.Small.Bits
import Derived.Test.YtcpnlojcmlldpaaHazeD
namespace Go.Proofs
open Go.Shelf
shelf_lay Lays.n135 Nm 135 at Try as Try.onesA
end Go.Proofs
namespace Go.Proofs.Ytcpnlojcmlldpaa
open Go.RowKit Go.Shelf

theorem ones_call (x : UInt8) (w : World) : Calls Try.prog 27 #[.int .u8 (x.toNat : Int)] w fun e w' => e = .returned (.int .i64 (Lib.onesCount x.toNat)) ∧ w' = w := by
  have h := Any.bits_OnesCount8 Try.onesA (x.toNat : Int) w (by omega) (by have := x.toNat_lt; omega)
  exact h
theorem ones_num (x : UInt8) : Lib.onesCount x.toNat = Hz.ones x := by
  have h : ∀ n : Fin 256, Lib.onesCount n.val = ((List.range 8).filter fun j => n.val.testBit j).length := by decide +kernel
  exact h ⟨x.toNat, x.toNat_lt⟩

set_option maxRecDepth 100000 in
set_option maxHeartbeats 400000 in
theorem count_any (h : List UInt8) (hh : h.length = 64) (w : World) :
    Calls Try.prog 12 #[hzV h] w fun e w' => e = .returned (.int .i64 (Hz.count h)) ∧ Below w.heap.size w w' := by
  have hi : (Try.prog.info? 26).map (·.size) = some (u8s h).toArray.size := by
    rw [List.size_toArray, u8s_len, hh]
    kernel_rfl
  have HH := Lib.hid hh
  clear hh
  go_enter Try.func12, Try.ntmps12
  have hA : At (w.alloc (.cells (u8s h).toArray 26)) w.heap.size 26 (u8s h) := At.newA w _ rfl
  have hB : Below w.heap.size w (w.alloc (.cells (u8s h).toArray 26)) := (Below.refl _ _).alloc (Nat.le_refl _) _
  have HI := Lib.hid (show (Try.prog.info? 26).map (·.size) = some (u8s h).length by rw [u8s_len, HH.out]; kernel_rfl)
  have HU := Lib.hid Try.underlying26
  have HB := Lib.hid hB
  clear hB
  go_wp2_with (with_reducible refine wpList_loadAll rfl 26 (.tmp 1) rfl _ rfl _ _ _ hA HU.out rfl HI.out ?_)
  go_loopw [2, 6] (fun n i wr => ∃ j : Nat, j ≤ 64 ∧ i = .int .i64 j ∧ n = .int .i64 (Hz.count (h.take j) : Nat) ∧ Below w.heap.size w wr) (fun _ i _ => 64 - (RowKit.intOf i).toNat)
  case atStart => exact ⟨0, by omega, rfl, rfl, HB.out⟩
  case round =>
    obtain ⟨j, hj, rfl, rfl, hb⟩ := hrel
    by_cases hjl : j < 64
    · have hjh : j < h.length := by rw [HH.out]; exact hjl
      obtain ⟨x, hx⟩ : ∃ x, x = h[j] := ⟨_, rfl⟩
      have hix : ∀ w, (Instr.index 26 (.agg (u8s h).toArray) (.int .i64 (j : Int))).run Try.prog w = .ok (.int .u8 (x.toNat : Int)) w := fun w => by
        refine run_index_arr w 26 5 64 .i64 j _ _ Try.underlying26 (by kernel_rfl) Try.underlying5 hjl ?_
        rw [hx]
        simp only [u8s, List.getElem?_toArray, List.getElem?_map, List.getElem?_eq_getElem hjh, Option.map_some]
      have hcl : Hz.count (h.take (j + 1)) = Hz.count (h.take j) + Hz.ones x := by
        unfold Hz.count
        rw [take_snoc h j hjh, List.map_append, List.sum_append, hx]
        simp
      have hc9 : Hz.count (h.take j) ≤ 8 * j := by
        have h1 : ∀ l : List UInt8, Hz.count l ≤ 8 * l.length := fun l => by
          induction l with
          | nil => exact Nat.le_refl _
          | cons a r ih =>
            have : Hz.ones a ≤ 8 := Nat.le_trans (List.length_filter_le _ _) (by simp)
            unfold Hz.count at ih ⊢
            simp only [List.map_cons, List.sum_cons, List.length_cons]
            omega
        exact Nat.le_trans (h1 _) (by rw [List.length_take]; omega)
      have ho : Hz.ones x ≤ 8 := Nat.le_trans (List.length_filter_le _ _) (by simp)
      obtain ⟨q, hq⟩ : ∃ q, q = Hz.count (h.take j) := ⟨_, rfl⟩
      rw [← hq] at hcl hc9 ⊢
      have HC := Lib.hid hcl
      have HBr := Lib.hid hb
      clear hcl hq hx hb hA
      go_wp2_with fail
      refine (ones_call x _).mono ?_
      rintro e w1 ⟨rfl, rfl⟩
      rw [ones_num]
      have ew : IntKind.i64.wrap ((q : Int) + (Hz.ones x : Int)) = (q : Int) + (Hz.ones x : Int) := IntWalk.i64_in _ (by omega)
      go_wp2_with fail
      go_roundw
      case rel => exact ⟨j + 1, by omega, by go_num, by rw [HC.out]; go_num, HBr.out⟩
      case measure => simp [RowKit.intOf]; omega
    · have hj64 : j = 64 := by omega
      have hfin : Hz.count (h.take j) = Hz.count h := by rw [List.take_of_length_le (by rw [HH.out]; omega)]
      rw [hfin]
      have HBr := Lib.hid hb
      clear hb hfin hA
      subst hj64
      go_wp2_with fail
      go_ret
      exact ⟨rfl, HBr.out⟩
end Go.Proofs.Ytcpnlojcmlldpaa
