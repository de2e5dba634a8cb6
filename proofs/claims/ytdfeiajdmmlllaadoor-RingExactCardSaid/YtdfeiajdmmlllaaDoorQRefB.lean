/- The reference's turn, consts and block. -/
import Derived.Test.YtdfeiajdmmlllaaDoorStampH
import Derived.Test.YtdfeiajdmmlllaaDoorRegC
import Derived.Test.YtdfeiajdmmlllaaDoorEncA
import Derived.Test.YtdfeiajdmmlllaaDoorRegD
namespace Go.Proofs.YtdfeiajdmmlllaaDoor
open Go.RowKit

set_option maxRecDepth 100000 in
theorem refturn_any (x n : Nat) (hx : x < 4294967296) (h0 : 0 < n) (h : n < 32) (w : World) :
    Calls Tryd.prog 67 #[.int .u32 x, .int .i64 n] w fun e w' => e = .returned (.int .u32 (Sha.rotr x n)) ∧ ∃ m, w' = w.drewN m := by
  obtain ⟨m, hm, hm1, hm2, hm3⟩ : ∃ m : Nat, m = 32 - n ∧ 0 < m ∧ m < 32 ∧ n = 32 - m := ⟨32 - n, rfl, by omega, by omega, by omega⟩
  have hn : (32 : Int) - (n : Int) = (m : Int) := by omega
  have hnw : IntKind.i64.wrap ((32 : Int) - (n : Int)) = (m : Int) := by rw [hn]; exact IntWalk.i64_in _ (by omega)
  have hmw : IntKind.i64.wrap (m : Int) = (m : Int) := IntWalk.i64_in _ (by omega)
  have e3 : bits .or .u32 ((x / 2 ^ n : Nat) : Int) ((x * 2 ^ m % 4294967296 : Nat) : Int) = (Sha.rotr x n : Nat) := by
    rw [u32_or_nat _ _ (Nat.lt_of_le_of_lt (Nat.div_le_self _ _) hx) (Nat.mod_lt _ (by omega)), Sha.rotr, hm, Nat.or_comm]
  clear hm hm3
  go_enter Tryd.func67, Tryd.ntmps67
  go_wp2_with fail
  go_quiet (fail)
  go_wp2_with fail
  go_ret
  exact ⟨by rw [← e3]; simp, _, rfl⟩
theorem at_new_at (w : World) (t : TypeId) {C : Array Value} {cs : List Value} {n : Nat} (hn : w.heap.size = n) (h : C = cs.toArray) : At (w.alloc (.cells C t (0, 0))) n t cs := by
  subst hn
  exact At.newA w t h
/-- turn's contract as a quiet walk asks it -/
theorem turn_at (x n : Nat) (k : Int) (hk : k = (n : Int)) (hx : x < 4294967296) (h0 : 0 < n) (h : n < 32) (w : World) (j : Nat) :
    Calls Tryd.prog 67 #[.int .u32 x, .int .i64 k] (w.drewN j) fun e w' => e = .returned (.int .u32 (Sha.rotr x n)) ∧ ∃ m, w' = w.drewN m := by
  subst hk
  exact Calls.quiet_of (refturn_any x n hx h0 h _)
set_option maxRecDepth 100000 in
set_option maxHeartbeats 2000000 in
theorem consts_any (w : World) : Calls Tryd.prog 47 #[] w fun e w' => e = .returned (.agg (u32s Sha.words).toArray) ∧ Below w.heap.size w w' := by
  have h1 : ∀ v ∈ u32s Sha.words, v.oneCell' = true := by
    intro v hv
    simp only [u32s, List.mem_map] at hv
    obtain ⟨n, _, rfl⟩ := hv
    rfl
  have H1 := Lib.hid h1
  have HI := Lib.hid (show (Tryd.prog.info? 81).map (·.size) = some (u32s Sha.words).length by kernel_rfl)
  clear h1
  go_enter Tryd.func47, Tryd.ntmps47
  go_wp2_with (refine wpList_storeAll rfl 81 (.tmp 0) (.tmp 1) rfl w.heap.size rfl 81 (u32s (List.replicate 64 0)) (u32s Sha.words) (at_new_at (cs := u32s (List.replicate 64 0)) _ _ rfl (by kernel_rfl)) (by kernel_rfl) rfl HI.out H1.out ?_; intro w4 hat4 hg4 hs4)
  refine ret_cellAll rfl rfl w.heap.size _ _ _ rfl hat4 Tryd.underlying81 rfl HI.out ⟨rfl, ?_⟩
  exact Below.ofGrown ((Below.refl _ _).alloc (Nat.le_refl _) _) hg4 (by simp) (Nat.le_refl _)
end Go.Proofs.YtdfeiajdmmlllaaDoor
