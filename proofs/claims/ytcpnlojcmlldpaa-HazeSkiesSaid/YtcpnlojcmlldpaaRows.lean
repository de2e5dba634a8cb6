/-
  No cell of these rows narrows 'for every input' (looked for: loops, veiled, ifaces, maps, wideKeys, modest, calm, conditions, laid).
  DERIVED. THE GIVEN ROWS OF THIS SEAT. 6 by the template 'for every input the law returns true; each argument reads behind the call as it read before'; 0 by the template 'total and deterministic' (their statements: YtcpnlojcmlldpaaTotals.lean).
  GIVEN WITH THE SEED: the statements are not yours to turn. If you find one false, say at which input.
  Laid BY PROGRAM, IN A SANDBOX (cutbox-rows.mjs): the forced cells as the released guide's own fill.sh prints them over the translation 5d735e5bda2fd1ac… (all of the seat's roots in one cut). By AI agents, Wed Nov 11 2026. No macro, syntax, notation, axiom, sorry.
-/
import Derived.Test.YtcpnlojcmlldpaaChecked
import GoSem.Claim
import GoSem.ClaimJoined
import GoSem.ClaimMapViews
import Derived.JoinedTies
import Derived.KernelRfl
namespace Go.Proofs.Ytcpnlojcmlldpaa
/- THE CELL 'sum', in the pinned program and in every row, IS THE sha256 OF THE DUMP (.gsa) THAT YtcpnlojcmlldpaaProg.lean LOADS. Nothing in Lean hashes anything: it is a label: what it is worth is what the hold of that sum in a sandbox is worth. -/
noncomputable def Try.pinned : Pinned := { name := "ytcpnlojcmlldpaa", sum := "5d735e5bda2fd1ac261690d33f1708e735f89d5289cada7a01e9b07f42987c2a", checked := Try.checked }
namespace Rows
def none {H : Type} : Left H := { results := [], args := [] }

/-- 'apiarylaw14.HazeBits': WHATEVER THE INPUT: true; the input reads as it did. -/
def hazeBitsSpec : ChangeSpec := { name := "hazeBits", fn := fun _ => fun
  | [d1, d2] => { results := [.lit (.bool true)], args := [d1, d2] }
  | _ => none }
def hazeBitsRow : OpenClaim := { program := "ytcpnlojcmlldpaa", sum := "5d735e5bda2fd1ac261690d33f1708e735f89d5289cada7a01e9b07f42987c2a", func := "apiary/apiarylaw14.HazeBits", spec := "hazeBits", unfollowed := true, recurses := true, apart := false }
def HazeBitsSaid : Prop := hazeBitsRow.holds Try.pinned (OpenSpec.ofChange hazeBitsSpec)

/-- ITS FALSE NEIGHBOUR: 'it returns false'. Refute it at one input. -/
def hazeBitsWrong : ChangeSpec := { name := "hazeBits", fn := fun _ => fun
  | [d1, d2] => { results := [.lit (.bool false)], args := [d1, d2] }
  | _ => none }
def HazeBitsWrongFalsely : Prop := hazeBitsRow.holds Try.pinned (OpenSpec.ofChange hazeBitsWrong)

/-- 'apiarylaw14.HazeSkies': WHATEVER THE INPUT: true; the input reads as it did. -/
def hazeSkiesSpec : ChangeSpec := { name := "hazeSkies", fn := fun _ => fun
  | [d] => { results := [.lit (.bool true)], args := [d] }
  | _ => none }
def hazeSkiesRow : OpenClaim := { program := "ytcpnlojcmlldpaa", sum := "5d735e5bda2fd1ac261690d33f1708e735f89d5289cada7a01e9b07f42987c2a", func := "apiary/apiarylaw14.HazeSkies", spec := "hazeSkies", unfollowed := true, recurses := true, apart := false }
def HazeSkiesSaid : Prop := hazeSkiesRow.holds Try.pinned (OpenSpec.ofChange hazeSkiesSpec)

/-- ITS FALSE NEIGHBOUR: 'it returns false'. Refute it at one input. -/
def hazeSkiesWrong : ChangeSpec := { name := "hazeSkies", fn := fun _ => fun
  | [d] => { results := [.lit (.bool false)], args := [d] }
  | _ => none }
def HazeSkiesWrongFalsely : Prop := hazeSkiesRow.holds Try.pinned (OpenSpec.ofChange hazeSkiesWrong)

/-- 'apiarylaw14.HazeAges': WHATEVER THE INPUT: true; the input reads as it did. -/
def hazeAgesSpec : ChangeSpec := { name := "hazeAges", fn := fun _ => fun
  | [d1, d2, d3, d4] => { results := [.lit (.bool true)], args := [d1, d2, d3, d4] }
  | _ => none }
def hazeAgesRow : OpenClaim := { program := "ytcpnlojcmlldpaa", sum := "5d735e5bda2fd1ac261690d33f1708e735f89d5289cada7a01e9b07f42987c2a", func := "apiary/apiarylaw14.HazeAges", spec := "hazeAges", unfollowed := true, recurses := true, apart := false }
def HazeAgesSaid : Prop := hazeAgesRow.holds Try.pinned (OpenSpec.ofChange hazeAgesSpec)

/-- ITS FALSE NEIGHBOUR: 'it returns false'. Refute it at one input. -/
def hazeAgesWrong : ChangeSpec := { name := "hazeAges", fn := fun _ => fun
  | [d1, d2, d3, d4] => { results := [.lit (.bool false)], args := [d1, d2, d3, d4] }
  | _ => none }
def HazeAgesWrongFalsely : Prop := hazeAgesRow.holds Try.pinned (OpenSpec.ofChange hazeAgesWrong)

/-- 'apiarylaw14.HazeExact': WHATEVER THE INPUT: true; the input reads as it did. -/
def hazeExactSpec : ChangeSpec := { name := "hazeExact", fn := fun _ => fun
  | [d1, d2, d3] => { results := [.lit (.bool true)], args := [d1, d2, d3] }
  | _ => none }
def hazeExactRow : OpenClaim := { program := "ytcpnlojcmlldpaa", sum := "5d735e5bda2fd1ac261690d33f1708e735f89d5289cada7a01e9b07f42987c2a", func := "apiary/apiarylaw14.HazeExact", spec := "hazeExact", unfollowed := true, recurses := true, apart := false }
def HazeExactSaid : Prop := hazeExactRow.holds Try.pinned (OpenSpec.ofChange hazeExactSpec)

/-- ITS FALSE NEIGHBOUR: 'it returns false'. Refute it at one input. -/
def hazeExactWrong : ChangeSpec := { name := "hazeExact", fn := fun _ => fun
  | [d1, d2, d3] => { results := [.lit (.bool false)], args := [d1, d2, d3] }
  | _ => none }
def HazeExactWrongFalsely : Prop := hazeExactRow.holds Try.pinned (OpenSpec.ofChange hazeExactWrong)

/-- 'apiarylaw14.HazeFinds': WHATEVER THE INPUT: true; the input reads as it did. -/
def hazeFindsSpec : ChangeSpec := { name := "hazeFinds", fn := fun _ => fun
  | [d1, d2, d3] => { results := [.lit (.bool true)], args := [d1, d2, d3] }
  | _ => none }
def hazeFindsRow : OpenClaim := { program := "ytcpnlojcmlldpaa", sum := "5d735e5bda2fd1ac261690d33f1708e735f89d5289cada7a01e9b07f42987c2a", func := "apiary/apiarylaw14.HazeFinds", spec := "hazeFinds", unfollowed := true, recurses := true, apart := false }
def HazeFindsSaid : Prop := hazeFindsRow.holds Try.pinned (OpenSpec.ofChange hazeFindsSpec)

/-- ITS FALSE NEIGHBOUR: 'it returns false'. Refute it at one input. -/
def hazeFindsWrong : ChangeSpec := { name := "hazeFinds", fn := fun _ => fun
  | [d1, d2, d3] => { results := [.lit (.bool false)], args := [d1, d2, d3] }
  | _ => none }
def HazeFindsWrongFalsely : Prop := hazeFindsRow.holds Try.pinned (OpenSpec.ofChange hazeFindsWrong)

/-- 'apiarylaw14.HazeJoins': WHATEVER THE INPUT: true; the input reads as it did. -/
def hazeJoinsSpec : ChangeSpec := { name := "hazeJoins", fn := fun _ => fun
  | [d1, d2, d3] => { results := [.lit (.bool true)], args := [d1, d2, d3] }
  | _ => none }
def hazeJoinsRow : OpenClaim := { program := "ytcpnlojcmlldpaa", sum := "5d735e5bda2fd1ac261690d33f1708e735f89d5289cada7a01e9b07f42987c2a", func := "apiary/apiarylaw14.HazeJoins", spec := "hazeJoins", unfollowed := true, recurses := true, apart := false }
def HazeJoinsSaid : Prop := hazeJoinsRow.holds Try.pinned (OpenSpec.ofChange hazeJoinsSpec)

/-- ITS FALSE NEIGHBOUR: 'it returns false'. Refute it at one input. -/
def hazeJoinsWrong : ChangeSpec := { name := "hazeJoins", fn := fun _ => fun
  | [d1, d2, d3] => { results := [.lit (.bool false)], args := [d1, d2, d3] }
  | _ => none }
def HazeJoinsWrongFalsely : Prop := hazeJoinsRow.holds Try.pinned (OpenSpec.ofChange hazeJoinsWrong)

/- THE SECOND FORM. 'bulk': how many values and letters a reading holds, each counted each time it is reached (what is shared counts as often as it is met; a slice's spare places count too). A statement '..UptoSaid' is the law's where the arguments, and the package variables that the reading takes, are together of bulk at most 1048576: NARROWER than '..Said'. Prove '..Said' where nothing that the law and all that it calls make is longer than what came in: it says more and counts as full. Else prove '..UptoSaid'. A law counts once. -/
mutual
def uptoBulk {H : Type} : DataW H → Nat
  | .lit (.string bytes) => bytes.length + 1
  | .lit _ => 1
  | .nil => 1
  | .ptr d => uptoBulk d + 1
  | .slice elems spare => uptoBulkAll elems + uptoBulkAll spare + 1
  | .agg parts => uptoBulkAll parts + 1
  | .iface _ d => uptoBulk d + 1
  | .map entries => uptoBulkEntries entries + 1
  | .held _ => 1
def uptoBulkAll {H : Type} : List (DataW H) → Nat
  | [] => 0
  | d :: r => uptoBulk d + uptoBulkAll r
def uptoBulkEntries {H : Type} : List (Lit × DataW H) → Nat
  | [] => 0
  | x :: r => uptoBulkEntry x + uptoBulkEntries r
def uptoBulkEntry {H : Type} : Lit × DataW H → Nat
  | (.string bytes, d) => bytes.length + uptoBulk d + 1
  | (_, d) => uptoBulk d + 1
 end
def uptoSmall : (H : Type) → List (DataW H) → Bool := fun _ ds => decide (uptoBulkAll ds ≤ 1048576)
def OpenSpec.upto (s : _root_.Go.ChangeSpec) : _root_.Go.OpenSpec := { _root_.Go.OpenSpec.ofChange s with cond := some uptoSmall }

/-- 'apiarylaw14.HazeBits', WHERE WHAT IT READS IS OF BULK AT MOST 1048576: true; the input reads as it did. -/
def hazeBitsUptoRow : OpenClaim := { program := "ytcpnlojcmlldpaa", sum := "5d735e5bda2fd1ac261690d33f1708e735f89d5289cada7a01e9b07f42987c2a", func := "apiary/apiarylaw14.HazeBits", spec := "hazeBits", unfollowed := true, recurses := true, apart := false, narrowed := true }
def HazeBitsUptoSaid : Prop := hazeBitsUptoRow.holds Try.pinned (OpenSpec.upto hazeBitsSpec)

/-- 'apiarylaw14.HazeSkies', WHERE WHAT IT READS IS OF BULK AT MOST 1048576: true; the input reads as it did. -/
def hazeSkiesUptoRow : OpenClaim := { program := "ytcpnlojcmlldpaa", sum := "5d735e5bda2fd1ac261690d33f1708e735f89d5289cada7a01e9b07f42987c2a", func := "apiary/apiarylaw14.HazeSkies", spec := "hazeSkies", unfollowed := true, recurses := true, apart := false, narrowed := true }
def HazeSkiesUptoSaid : Prop := hazeSkiesUptoRow.holds Try.pinned (OpenSpec.upto hazeSkiesSpec)

/-- 'apiarylaw14.HazeAges', WHERE WHAT IT READS IS OF BULK AT MOST 1048576: true; the input reads as it did. -/
def hazeAgesUptoRow : OpenClaim := { program := "ytcpnlojcmlldpaa", sum := "5d735e5bda2fd1ac261690d33f1708e735f89d5289cada7a01e9b07f42987c2a", func := "apiary/apiarylaw14.HazeAges", spec := "hazeAges", unfollowed := true, recurses := true, apart := false, narrowed := true }
def HazeAgesUptoSaid : Prop := hazeAgesUptoRow.holds Try.pinned (OpenSpec.upto hazeAgesSpec)

/-- 'apiarylaw14.HazeExact', WHERE WHAT IT READS IS OF BULK AT MOST 1048576: true; the input reads as it did. -/
def hazeExactUptoRow : OpenClaim := { program := "ytcpnlojcmlldpaa", sum := "5d735e5bda2fd1ac261690d33f1708e735f89d5289cada7a01e9b07f42987c2a", func := "apiary/apiarylaw14.HazeExact", spec := "hazeExact", unfollowed := true, recurses := true, apart := false, narrowed := true }
def HazeExactUptoSaid : Prop := hazeExactUptoRow.holds Try.pinned (OpenSpec.upto hazeExactSpec)

/-- 'apiarylaw14.HazeFinds', WHERE WHAT IT READS IS OF BULK AT MOST 1048576: true; the input reads as it did. -/
def hazeFindsUptoRow : OpenClaim := { program := "ytcpnlojcmlldpaa", sum := "5d735e5bda2fd1ac261690d33f1708e735f89d5289cada7a01e9b07f42987c2a", func := "apiary/apiarylaw14.HazeFinds", spec := "hazeFinds", unfollowed := true, recurses := true, apart := false, narrowed := true }
def HazeFindsUptoSaid : Prop := hazeFindsUptoRow.holds Try.pinned (OpenSpec.upto hazeFindsSpec)

/-- 'apiarylaw14.HazeJoins', WHERE WHAT IT READS IS OF BULK AT MOST 1048576: true; the input reads as it did. -/
def hazeJoinsUptoRow : OpenClaim := { program := "ytcpnlojcmlldpaa", sum := "5d735e5bda2fd1ac261690d33f1708e735f89d5289cada7a01e9b07f42987c2a", func := "apiary/apiarylaw14.HazeJoins", spec := "hazeJoins", unfollowed := true, recurses := true, apart := false, narrowed := true }
def HazeJoinsUptoSaid : Prop := hazeJoinsUptoRow.holds Try.pinned (OpenSpec.upto hazeJoinsSpec)

end Rows
end Go.Proofs.Ytcpnlojcmlldpaa
