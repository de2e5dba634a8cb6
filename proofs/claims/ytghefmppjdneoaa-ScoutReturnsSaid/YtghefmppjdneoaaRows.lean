/-
  No cell of these rows narrows 'for every input' (looked for: loops, veiled, ifaces, maps, wideKeys, modest, calm, conditions, laid).
  DERIVED. THE GIVEN ROWS OF THIS SEAT. 4 by the template 'for every input the law returns true; each argument reads behind the call as it read before'; 0 by the template 'total and deterministic' (their statements: YtghefmppjdneoaaTotals.lean).
  GIVEN WITH THE SEED: the statements are not yours to turn. If you find one false, say at which input.
  Laid BY PROGRAM, IN A SANDBOX (cutbox-rows.mjs): the forced cells as the released guide's own fill.sh prints them over the translation d467649cb31797e6… (all of the seat's roots in one cut). By AI agents, Wed Nov 11 2026. No macro, syntax, notation, axiom, sorry.
-/
import Derived.Test.YtghefmppjdneoaaChecked
import GoSem.Claim
import GoSem.ClaimJoined
import GoSem.ClaimMapViews
import Derived.JoinedTies
import Derived.KernelRfl
namespace Go.Proofs.Ytghefmppjdneoaa
/- THE CELL 'sum', in the pinned program and in every row, IS THE sha256 OF THE DUMP (.gsa) THAT YtghefmppjdneoaaProg.lean LOADS. Nothing in Lean hashes anything: it is a label: what it is worth is what the hold of that sum in a sandbox is worth. -/
noncomputable def Try.pinned : Pinned := { name := "ytghefmppjdneoaa", sum := "d467649cb31797e6566ad5734d04ad53c549fa9916b7db31df3219469d23f5a9", checked := Try.checked }
namespace Rows
def none {H : Type} : Left H := { results := [], args := [] }

/-- 'apiarylaw12.ScoutFinds': WHATEVER THE INPUT: true; the input reads as it did. -/
def scoutFindsSpec : ChangeSpec := { name := "scoutFinds", fn := fun _ => fun
  | [d1, d2, d3] => { results := [.lit (.bool true)], args := [d1, d2, d3] }
  | _ => none }
def scoutFindsRow : OpenClaim := { program := "ytghefmppjdneoaa", sum := "d467649cb31797e6566ad5734d04ad53c549fa9916b7db31df3219469d23f5a9", func := "apiary/apiarylaw12.ScoutFinds", spec := "scoutFinds", unfollowed := true, recurses := true, apart := false }
def ScoutFindsSaid : Prop := scoutFindsRow.holds Try.pinned (OpenSpec.ofChange scoutFindsSpec)

/-- ITS FALSE NEIGHBOUR: 'it returns false'. Refute it at one input. -/
def scoutFindsWrong : ChangeSpec := { name := "scoutFinds", fn := fun _ => fun
  | [d1, d2, d3] => { results := [.lit (.bool false)], args := [d1, d2, d3] }
  | _ => none }
def ScoutFindsWrongFalsely : Prop := scoutFindsRow.holds Try.pinned (OpenSpec.ofChange scoutFindsWrong)

/-- 'apiarylaw12.ScoutReturns': WHATEVER THE INPUT: true; the input reads as it did. -/
def scoutReturnsSpec : ChangeSpec := { name := "scoutReturns", fn := fun _ => fun
  | [d1, d2, d3] => { results := [.lit (.bool true)], args := [d1, d2, d3] }
  | _ => none }
def scoutReturnsRow : OpenClaim := { program := "ytghefmppjdneoaa", sum := "d467649cb31797e6566ad5734d04ad53c549fa9916b7db31df3219469d23f5a9", func := "apiary/apiarylaw12.ScoutReturns", spec := "scoutReturns", unfollowed := true, recurses := true, apart := false }
def ScoutReturnsSaid : Prop := scoutReturnsRow.holds Try.pinned (OpenSpec.ofChange scoutReturnsSpec)

/-- ITS FALSE NEIGHBOUR: 'it returns false'. Refute it at one input. -/
def scoutReturnsWrong : ChangeSpec := { name := "scoutReturns", fn := fun _ => fun
  | [d1, d2, d3] => { results := [.lit (.bool false)], args := [d1, d2, d3] }
  | _ => none }
def ScoutReturnsWrongFalsely : Prop := scoutReturnsRow.holds Try.pinned (OpenSpec.ofChange scoutReturnsWrong)

/-- 'apiarylaw12.ScoutTurns': WHATEVER THE INPUT: true; the input reads as it did. -/
def scoutTurnsSpec : ChangeSpec := { name := "scoutTurns", fn := fun _ => fun
  | [d1, d2, d3] => { results := [.lit (.bool true)], args := [d1, d2, d3] }
  | _ => none }
def scoutTurnsRow : OpenClaim := { program := "ytghefmppjdneoaa", sum := "d467649cb31797e6566ad5734d04ad53c549fa9916b7db31df3219469d23f5a9", func := "apiary/apiarylaw12.ScoutTurns", spec := "scoutTurns", unfollowed := true, recurses := true, apart := false }
def ScoutTurnsSaid : Prop := scoutTurnsRow.holds Try.pinned (OpenSpec.ofChange scoutTurnsSpec)

/-- ITS FALSE NEIGHBOUR: 'it returns false'. Refute it at one input. -/
def scoutTurnsWrong : ChangeSpec := { name := "scoutTurns", fn := fun _ => fun
  | [d1, d2, d3] => { results := [.lit (.bool false)], args := [d1, d2, d3] }
  | _ => none }
def ScoutTurnsWrongFalsely : Prop := scoutTurnsRow.holds Try.pinned (OpenSpec.ofChange scoutTurnsWrong)

/-- 'apiarylaw12.ScoutRises': WHATEVER THE INPUT: true; the input reads as it did. -/
def scoutRisesSpec : ChangeSpec := { name := "scoutRises", fn := fun _ => fun
  | [d1, d2, d3] => { results := [.lit (.bool true)], args := [d1, d2, d3] }
  | _ => none }
def scoutRisesRow : OpenClaim := { program := "ytghefmppjdneoaa", sum := "d467649cb31797e6566ad5734d04ad53c549fa9916b7db31df3219469d23f5a9", func := "apiary/apiarylaw12.ScoutRises", spec := "scoutRises", unfollowed := true, recurses := true, apart := false }
def ScoutRisesSaid : Prop := scoutRisesRow.holds Try.pinned (OpenSpec.ofChange scoutRisesSpec)

/-- ITS FALSE NEIGHBOUR: 'it returns false'. Refute it at one input. -/
def scoutRisesWrong : ChangeSpec := { name := "scoutRises", fn := fun _ => fun
  | [d1, d2, d3] => { results := [.lit (.bool false)], args := [d1, d2, d3] }
  | _ => none }
def ScoutRisesWrongFalsely : Prop := scoutRisesRow.holds Try.pinned (OpenSpec.ofChange scoutRisesWrong)

/- THE SECOND FORM. 'bulk': how many values and letters a reading holds, each counted each time it is reached (what is shared counts as often as it is met; a slice's spare places count too). A statement '..UptoSaid' is the law's where the arguments, and the package variables that the reading takes, are together of bulk at most 1048576: NARROWER than '..Said'. Prove '..Said' where nothing that the law and all that it calls make is longer than what came in: it says more and counts as full. Else prove '..UptoSaid'. A law counts once. -/
mutual
def uptoBulk {H : Type} : DataW H → Nat
  | .lit (.string bytes) => bytes.length + 1
  | .lit _ => 1
  | .nil => 1
  | .ptr d => uptoBulk d + 1
  | .slice elems spare => uptoBulkAll elems + uptoBulkAll spare + 1
  | .agg parts => uptoBulkAll parts + 1
  | .iface _ d => uptoBulk d + 1
  | .map entries => uptoBulkEntries entries + 1
  | .held _ => 1
def uptoBulkAll {H : Type} : List (DataW H) → Nat
  | [] => 0
  | d :: r => uptoBulk d + uptoBulkAll r
def uptoBulkEntries {H : Type} : List (Lit × DataW H) → Nat
  | [] => 0
  | x :: r => uptoBulkEntry x + uptoBulkEntries r
def uptoBulkEntry {H : Type} : Lit × DataW H → Nat
  | (.string bytes, d) => bytes.length + uptoBulk d + 1
  | (_, d) => uptoBulk d + 1
 end
def uptoSmall : (H : Type) → List (DataW H) → Bool := fun _ ds => decide (uptoBulkAll ds ≤ 1048576)
def OpenSpec.upto (s : _root_.Go.ChangeSpec) : _root_.Go.OpenSpec := { _root_.Go.OpenSpec.ofChange s with cond := some uptoSmall }

/-- 'apiarylaw12.ScoutFinds', WHERE WHAT IT READS IS OF BULK AT MOST 1048576: true; the input reads as it did. -/
def scoutFindsUptoRow : OpenClaim := { program := "ytghefmppjdneoaa", sum := "d467649cb31797e6566ad5734d04ad53c549fa9916b7db31df3219469d23f5a9", func := "apiary/apiarylaw12.ScoutFinds", spec := "scoutFinds", unfollowed := true, recurses := true, apart := false, narrowed := true }
def ScoutFindsUptoSaid : Prop := scoutFindsUptoRow.holds Try.pinned (OpenSpec.upto scoutFindsSpec)

/-- 'apiarylaw12.ScoutReturns', WHERE WHAT IT READS IS OF BULK AT MOST 1048576: true; the input reads as it did. -/
def scoutReturnsUptoRow : OpenClaim := { program := "ytghefmppjdneoaa", sum := "d467649cb31797e6566ad5734d04ad53c549fa9916b7db31df3219469d23f5a9", func := "apiary/apiarylaw12.ScoutReturns", spec := "scoutReturns", unfollowed := true, recurses := true, apart := false, narrowed := true }
def ScoutReturnsUptoSaid : Prop := scoutReturnsUptoRow.holds Try.pinned (OpenSpec.upto scoutReturnsSpec)

/-- 'apiarylaw12.ScoutTurns', WHERE WHAT IT READS IS OF BULK AT MOST 1048576: true; the input reads as it did. -/
def scoutTurnsUptoRow : OpenClaim := { program := "ytghefmppjdneoaa", sum := "d467649cb31797e6566ad5734d04ad53c549fa9916b7db31df3219469d23f5a9", func := "apiary/apiarylaw12.ScoutTurns", spec := "scoutTurns", unfollowed := true, recurses := true, apart := false, narrowed := true }
def ScoutTurnsUptoSaid : Prop := scoutTurnsUptoRow.holds Try.pinned (OpenSpec.upto scoutTurnsSpec)

/-- 'apiarylaw12.ScoutRises', WHERE WHAT IT READS IS OF BULK AT MOST 1048576: true; the input reads as it did. -/
def scoutRisesUptoRow : OpenClaim := { program := "ytghefmppjdneoaa", sum := "d467649cb31797e6566ad5734d04ad53c549fa9916b7db31df3219469d23f5a9", func := "apiary/apiarylaw12.ScoutRises", spec := "scoutRises", unfollowed := true, recurses := true, apart := false, narrowed := true }
def ScoutRisesUptoSaid : Prop := scoutRisesUptoRow.holds Try.pinned (OpenSpec.upto scoutRisesSpec)

end Rows
end Go.Proofs.Ytghefmppjdneoaa
