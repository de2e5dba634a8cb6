/-
  No cell of these rows narrows 'for every input' (looked for: loops, veiled, ifaces, maps, wideKeys, modest, calm, conditions, laid).
  DERIVED. THE GIVEN ROWS OF THIS SEAT. 3 by the template 'for every input the law returns true; each argument reads behind the call as it read before'; 0 by the template 'total and deterministic' (their statements: YtepnepgjlnoabaaTotals.lean).
  GIVEN WITH THE SEED: the statements are not yours to turn. If you find one false, say at which input.
  Laid BY PROGRAM, IN A SANDBOX (cutbox-rows.mjs): the forced cells as the released guide's own fill.sh prints them over the translation fb38a6c89536c7a2… (all of the seat's roots in one cut). By AI agents, Wed Nov 11 2026. No macro, syntax, notation, axiom, sorry.
-/
import Derived.Test.YtepnepgjlnoabaaChecked
import GoSem.Claim
import GoSem.ClaimJoined
import GoSem.ClaimMapViews
import Derived.JoinedTies
import Derived.KernelRfl
namespace Go.Proofs.Ytepnepgjlnoabaa
/- THE CELL 'sum', in the pinned program and in every row, IS THE sha256 OF THE DUMP (.gsa) THAT YtepnepgjlnoabaaProg.lean LOADS. Nothing in Lean hashes anything: it is a label: what it is worth is what the hold of that sum in a sandbox is worth. -/
noncomputable def Try.pinned : Pinned := { name := "ytepnepgjlnoabaa", sum := "fb38a6c89536c7a2b81893a6c517864703b3c56a202fcaedb8dced59be825cd6", checked := Try.checked }
namespace Rows
def none {H : Type} : Left H := { results := [], args := [] }

/-- 'apiarylaw11.HumExact': WHATEVER THE INPUT: true; the input reads as it did. -/
def humExactSpec : ChangeSpec := { name := "humExact", fn := fun _ => fun
  | [d1, d2] => { results := [.lit (.bool true)], args := [d1, d2] }
  | _ => none }
def humExactRow : OpenClaim := { program := "ytepnepgjlnoabaa", sum := "fb38a6c89536c7a2b81893a6c517864703b3c56a202fcaedb8dced59be825cd6", func := "apiary/apiarylaw11.HumExact", spec := "humExact", unfollowed := true, recurses := true, apart := false }
def HumExactSaid : Prop := humExactRow.holds Try.pinned (OpenSpec.ofChange humExactSpec)

/-- ITS FALSE NEIGHBOUR: 'it returns false'. Refute it at one input. -/
def humExactWrong : ChangeSpec := { name := "humExact", fn := fun _ => fun
  | [d1, d2] => { results := [.lit (.bool false)], args := [d1, d2] }
  | _ => none }
def HumExactWrongFalsely : Prop := humExactRow.holds Try.pinned (OpenSpec.ofChange humExactWrong)

/-- 'apiarylaw11.HumTells': WHATEVER THE INPUT: true; the input reads as it did. -/
def humTellsSpec : ChangeSpec := { name := "humTells", fn := fun _ => fun
  | [d1, d2, d3] => { results := [.lit (.bool true)], args := [d1, d2, d3] }
  | _ => none }
def humTellsRow : OpenClaim := { program := "ytepnepgjlnoabaa", sum := "fb38a6c89536c7a2b81893a6c517864703b3c56a202fcaedb8dced59be825cd6", func := "apiary/apiarylaw11.HumTells", spec := "humTells", unfollowed := true, recurses := true, apart := false }
def HumTellsSaid : Prop := humTellsRow.holds Try.pinned (OpenSpec.ofChange humTellsSpec)

/-- ITS FALSE NEIGHBOUR: 'it returns false'. Refute it at one input. -/
def humTellsWrong : ChangeSpec := { name := "humTells", fn := fun _ => fun
  | [d1, d2, d3] => { results := [.lit (.bool false)], args := [d1, d2, d3] }
  | _ => none }
def HumTellsWrongFalsely : Prop := humTellsRow.holds Try.pinned (OpenSpec.ofChange humTellsWrong)

/-- 'apiarylaw11.HumFresh': WHATEVER THE INPUT: true; the input reads as it did. -/
def humFreshSpec : ChangeSpec := { name := "humFresh", fn := fun _ => fun
  | [d1, d2] => { results := [.lit (.bool true)], args := [d1, d2] }
  | _ => none }
def humFreshRow : OpenClaim := { program := "ytepnepgjlnoabaa", sum := "fb38a6c89536c7a2b81893a6c517864703b3c56a202fcaedb8dced59be825cd6", func := "apiary/apiarylaw11.HumFresh", spec := "humFresh", unfollowed := true, recurses := true, apart := false }
def HumFreshSaid : Prop := humFreshRow.holds Try.pinned (OpenSpec.ofChange humFreshSpec)

/-- ITS FALSE NEIGHBOUR: 'it returns false'. Refute it at one input. -/
def humFreshWrong : ChangeSpec := { name := "humFresh", fn := fun _ => fun
  | [d1, d2] => { results := [.lit (.bool false)], args := [d1, d2] }
  | _ => none }
def HumFreshWrongFalsely : Prop := humFreshRow.holds Try.pinned (OpenSpec.ofChange humFreshWrong)

/- THE SECOND FORM. 'bulk': how many values and letters a reading holds, each counted each time it is reached (what is shared counts as often as it is met; a slice's spare places count too). A statement '..UptoSaid' is the law's where the arguments, and the package variables that the reading takes, are together of bulk at most 1048576: NARROWER than '..Said'. Prove '..Said' where nothing that the law and all that it calls make is longer than what came in: it says more and counts as full. Else prove '..UptoSaid'. A law counts once. -/
mutual
def uptoBulk {H : Type} : DataW H → Nat
  | .lit (.string bytes) => bytes.length + 1
  | .lit _ => 1
  | .nil => 1
  | .ptr d => uptoBulk d + 1
  | .slice elems spare => uptoBulkAll elems + uptoBulkAll spare + 1
  | .agg parts => uptoBulkAll parts + 1
  | .iface _ d => uptoBulk d + 1
  | .map entries => uptoBulkEntries entries + 1
  | .held _ => 1
def uptoBulkAll {H : Type} : List (DataW H) → Nat
  | [] => 0
  | d :: r => uptoBulk d + uptoBulkAll r
def uptoBulkEntries {H : Type} : List (Lit × DataW H) → Nat
  | [] => 0
  | x :: r => uptoBulkEntry x + uptoBulkEntries r
def uptoBulkEntry {H : Type} : Lit × DataW H → Nat
  | (.string bytes, d) => bytes.length + uptoBulk d + 1
  | (_, d) => uptoBulk d + 1
 end
def uptoSmall : (H : Type) → List (DataW H) → Bool := fun _ ds => decide (uptoBulkAll ds ≤ 1048576)
def OpenSpec.upto (s : _root_.Go.ChangeSpec) : _root_.Go.OpenSpec := { _root_.Go.OpenSpec.ofChange s with cond := some uptoSmall }

/-- 'apiarylaw11.HumExact', WHERE WHAT IT READS IS OF BULK AT MOST 1048576: true; the input reads as it did. -/
def humExactUptoRow : OpenClaim := { program := "ytepnepgjlnoabaa", sum := "fb38a6c89536c7a2b81893a6c517864703b3c56a202fcaedb8dced59be825cd6", func := "apiary/apiarylaw11.HumExact", spec := "humExact", unfollowed := true, recurses := true, apart := false, narrowed := true }
def HumExactUptoSaid : Prop := humExactUptoRow.holds Try.pinned (OpenSpec.upto humExactSpec)

/-- 'apiarylaw11.HumTells', WHERE WHAT IT READS IS OF BULK AT MOST 1048576: true; the input reads as it did. -/
def humTellsUptoRow : OpenClaim := { program := "ytepnepgjlnoabaa", sum := "fb38a6c89536c7a2b81893a6c517864703b3c56a202fcaedb8dced59be825cd6", func := "apiary/apiarylaw11.HumTells", spec := "humTells", unfollowed := true, recurses := true, apart := false, narrowed := true }
def HumTellsUptoSaid : Prop := humTellsUptoRow.holds Try.pinned (OpenSpec.upto humTellsSpec)

/-- 'apiarylaw11.HumFresh', WHERE WHAT IT READS IS OF BULK AT MOST 1048576: true; the input reads as it did. -/
def humFreshUptoRow : OpenClaim := { program := "ytepnepgjlnoabaa", sum := "fb38a6c89536c7a2b81893a6c517864703b3c56a202fcaedb8dced59be825cd6", func := "apiary/apiarylaw11.HumFresh", spec := "humFresh", unfollowed := true, recurses := true, apart := false, narrowed := true }
def HumFreshUptoSaid : Prop := humFreshUptoRow.holds Try.pinned (OpenSpec.upto humFreshSpec)

end Rows
end Go.Proofs.Ytepnepgjlnoabaa
