/- Layer 2: the press that is nil: Add answers nil, Sum the zero digest. -/
import Derived.Test.YtdfeiajdmmlllaaDoorQStrs
namespace Go.Proofs.YtdfeiajdmmlllaaDoor
open Go.RowKit

def zero32 : List Value := [.int .u8 0, .int .u8 0, .int .u8 0, .int .u8 0, .int .u8 0, .int .u8 0, .int .u8 0, .int .u8 0, .int .u8 0, .int .u8 0, .int .u8 0, .int .u8 0, .int .u8 0, .int .u8 0, .int .u8 0, .int .u8 0, .int .u8 0, .int .u8 0, .int .u8 0, .int .u8 0, .int .u8 0, .int .u8 0, .int .u8 0, .int .u8 0, .int .u8 0, .int .u8 0, .int .u8 0, .int .u8 0, .int .u8 0, .int .u8 0, .int .u8 0, .int .u8 0]
theorem zero32_oneCell : ∀ v ∈ zero32, v.oneCell' = true := by decide
theorem zero32_info : (Tryd.prog.info? 23).map (·.size) = some zero32.length := by kernel_rfl
end Go.Proofs.YtdfeiajdmmlllaaDoor
