/- Layer 2: the press that is nil: Add answers nil, Sum the zero digest. -/
import Derived.Test.YthfkbdhfnoilgaaDoorStrs
namespace Go.Proofs.YthfkbdhfnoilgaaDoor
open Go.RowKit

def zero32 : List Value := [.int .u8 0, .int .u8 0, .int .u8 0, .int .u8 0, .int .u8 0, .int .u8 0, .int .u8 0, .int .u8 0, .int .u8 0, .int .u8 0, .int .u8 0, .int .u8 0, .int .u8 0, .int .u8 0, .int .u8 0, .int .u8 0, .int .u8 0, .int .u8 0, .int .u8 0, .int .u8 0, .int .u8 0, .int .u8 0, .int .u8 0, .int .u8 0, .int .u8 0, .int .u8 0, .int .u8 0, .int .u8 0, .int .u8 0, .int .u8 0, .int .u8 0, .int .u8 0]
theorem zero32_oneCell : ∀ v ∈ zero32, v.oneCell' = true := by decide
theorem zero32_info : (Tryd.prog.info? 27).map (·.size) = some zero32.length := by kernel_rfl

set_option maxRecDepth 100000 in
theorem sum_nil (w : World) : Calls Tryd.prog 21 #[.pointer none] w fun e w' => e = .returned (.agg zero32.toArray) ∧ Below w.heap.size w w' := by
  go_enter Tryd.func21, Tryd.ntmps21
  have hA : At (w.alloc (.cells zero32.toArray 27)) w.heap.size 27 zero32 := At.newA _ _ rfl
  have HA := Lib.hid hA
  clear hA
  go_wp2_with (refine wpList_storeAll rfl 27 (.tmp 2) (.tmp 8) rfl w.heap.size rfl 27 zero32 zero32 HA.out rfl rfl zero32_info zero32_oneCell ?_; intro w4 hat4 hg4 hs4)
  refine ret_cellAll rfl rfl w.heap.size _ _ _ rfl hat4 Tryd.underlying27 rfl zero32_info ⟨rfl, ?_⟩
  exact Below.ofGrown ((Below.refl _ _).alloc (Nat.le_refl _) _) hg4 (by simp) (Nat.le_refl _)

theorem add_nil (A : Option Addr) (n c : Nat) (w : World) : Calls Tryd.prog 23 #[.pointer none, .slice A n c] w fun e w' => e = .returned (.pointer none) ∧ w = w' := by
  go_enter Tryd.func23, Tryd.ntmps23
  go_wp2
  go_ret
  exact ⟨rfl, rfl⟩
end Go.Proofs.YthfkbdhfnoilgaaDoor
