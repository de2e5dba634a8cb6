/- Rows of layer 12: what the row of ScoutReturns asks. -/
import Derived.Test.YtghefmppjdneoaaScRwM
import Derived.Test.YtghefmppjdneoaaRetWM
namespace Go.Proofs.Ytghefmppjdneoaa
open Go.ChangeShapes Go.WideShapes Go.ChangeAt Go.RowKit

theorem returns_any (n who : Int) (A : Option Addr) (c : Nat) (l : List Int) (w : World) (_hn : -9223372036854775808 ≤ n ∧ n ≤ 9223372036854775807) (_hw : -9223372036854775808 ≤ who ∧ who ≤ 9223372036854775807) (hl : DRow w A l) :
    Calls Try.prog 4 #[.int .i64 n, .int .i64 who, .slice A l.length c] w fun e w' => e = .returned (.bool true) ∧ Below w.heap.size w w' := returns_walk n who A c l w hl
end Go.Proofs.Ytghefmppjdneoaa
