/- Layer 2's statement StampSorts, for every three digests. -/
import Derived.Test.YthfkbdhfnoilgaaDoorStampK
namespace Go.Proofs.YthfkbdhfnoilgaaDoor
open Go.RowKit
theorem sorts_any (a : List UInt8) (ha : a.length = 32) (b : List UInt8) (hb : b.length = 32) (c : List UInt8) (hc : c.length = 32) (w : World) (hw : Tab w 0 (u32s Sha.words)) :
    Calls Tryd.prog 6 #[.agg (u8s a).toArray, .agg (u8s b).toArray, .agg (u8s c).toArray] w fun e w' => e = .returned (.bool true) ∧ Below w.heap.size w w' := by
  refine sorts_case a b c ha hb hc _ _ _ _ _ rfl rfl rfl rfl rfl (fun h => ?_) (fun h => ?_) (less_trans a b c) w hw
  · have e : a = b := by simpa using h
    subst e
    exact ⟨less_irrefl a, less_irrefl a⟩
  · exact less_total a b (by simpa using h)
end Go.Proofs.YthfkbdhfnoilgaaDoor
