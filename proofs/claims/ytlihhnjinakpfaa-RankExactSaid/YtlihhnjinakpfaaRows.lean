/-
  No cell of these rows narrows 'for every input' (looked for: loops, veiled, ifaces, maps, wideKeys, modest, calm, conditions, laid).
  DERIVED. THE GIVEN ROWS OF THIS SEAT. 5 by the template 'for every input the law returns true; each argument reads behind the call as it read before'; 0 by the template 'total and deterministic' (their statements: YtlihhnjinakpfaaTotals.lean).
  GIVEN WITH THE SEED: the statements are not yours to turn. If you find one false, say at which input.
  Laid BY PROGRAM, IN A SANDBOX (cutbox-rows.mjs): the forced cells as the released guide's own fill.sh prints them over the translation 94da971144095ea7… (all of the seat's roots in one cut). By AI agents, Wed Nov 11 2026. No macro, syntax, notation, axiom, sorry.
-/
import Derived.Test.YtlihhnjinakpfaaChecked
import GoSem.Claim
import GoSem.ClaimJoined
import GoSem.ClaimMapViews
import Derived.JoinedTies
import Derived.KernelRfl
namespace Go.Proofs.Ytlihhnjinakpfaa
/- THE CELL 'sum', in the pinned program and in every row, IS THE sha256 OF THE DUMP (.gsa) THAT YtlihhnjinakpfaaProg.lean LOADS. Nothing in Lean hashes anything: it is a label: what it is worth is what the hold of that sum in a sandbox is worth. -/
noncomputable def Try.pinned : Pinned := { name := "ytlihhnjinakpfaa", sum := "94da971144095ea7b509f8f4a015b6da5d0b77d25bab427c4f133ef54195c12e", checked := Try.checked }
namespace Rows
def none {H : Type} : Left H := { results := [], args := [] }

/-- 'apiarylaw10.RankExact': WHATEVER THE INPUT: true; the input reads as it did. -/
def rankExactSpec : ChangeSpec := { name := "rankExact", fn := fun _ => fun
  | [d1, d2] => { results := [.lit (.bool true)], args := [d1, d2] }
  | _ => none }
def rankExactRow : OpenClaim := { program := "ytlihhnjinakpfaa", sum := "94da971144095ea7b509f8f4a015b6da5d0b77d25bab427c4f133ef54195c12e", func := "apiary/apiarylaw10.RankExact", spec := "rankExact", unfollowed := true, recurses := true, apart := false }
def RankExactSaid : Prop := rankExactRow.holds Try.pinned (OpenSpec.ofChange rankExactSpec)

/-- ITS FALSE NEIGHBOUR: 'it returns false'. Refute it at one input. -/
def rankExactWrong : ChangeSpec := { name := "rankExact", fn := fun _ => fun
  | [d1, d2] => { results := [.lit (.bool false)], args := [d1, d2] }
  | _ => none }
def RankExactWrongFalsely : Prop := rankExactRow.holds Try.pinned (OpenSpec.ofChange rankExactWrong)

/-- 'apiarylaw10.RankMeets': WHATEVER THE INPUT: true; the input reads as it did. -/
def rankMeetsSpec : ChangeSpec := { name := "rankMeets", fn := fun _ => fun
  | [d1, d2] => { results := [.lit (.bool true)], args := [d1, d2] }
  | _ => none }
def rankMeetsRow : OpenClaim := { program := "ytlihhnjinakpfaa", sum := "94da971144095ea7b509f8f4a015b6da5d0b77d25bab427c4f133ef54195c12e", func := "apiary/apiarylaw10.RankMeets", spec := "rankMeets", unfollowed := true, recurses := true, apart := false }
def RankMeetsSaid : Prop := rankMeetsRow.holds Try.pinned (OpenSpec.ofChange rankMeetsSpec)

/-- ITS FALSE NEIGHBOUR: 'it returns false'. Refute it at one input. -/
def rankMeetsWrong : ChangeSpec := { name := "rankMeets", fn := fun _ => fun
  | [d1, d2] => { results := [.lit (.bool false)], args := [d1, d2] }
  | _ => none }
def RankMeetsWrongFalsely : Prop := rankMeetsRow.holds Try.pinned (OpenSpec.ofChange rankMeetsWrong)

/-- 'apiarylaw10.RankRises': WHATEVER THE INPUT: true; the input reads as it did. -/
def rankRisesSpec : ChangeSpec := { name := "rankRises", fn := fun _ => fun
  | [d] => { results := [.lit (.bool true)], args := [d] }
  | _ => none }
def rankRisesRow : OpenClaim := { program := "ytlihhnjinakpfaa", sum := "94da971144095ea7b509f8f4a015b6da5d0b77d25bab427c4f133ef54195c12e", func := "apiary/apiarylaw10.RankRises", spec := "rankRises", unfollowed := true, recurses := true, apart := false }
def RankRisesSaid : Prop := rankRisesRow.holds Try.pinned (OpenSpec.ofChange rankRisesSpec)

/-- ITS FALSE NEIGHBOUR: 'it returns false'. Refute it at one input. -/
def rankRisesWrong : ChangeSpec := { name := "rankRises", fn := fun _ => fun
  | [d] => { results := [.lit (.bool false)], args := [d] }
  | _ => none }
def RankRisesWrongFalsely : Prop := rankRisesRow.holds Try.pinned (OpenSpec.ofChange rankRisesWrong)

/-- 'apiarylaw10.RankOrders': WHATEVER THE INPUT: true; the input reads as it did. -/
def rankOrdersSpec : ChangeSpec := { name := "rankOrders", fn := fun _ => fun
  | [d1, d2, d3] => { results := [.lit (.bool true)], args := [d1, d2, d3] }
  | _ => none }
def rankOrdersRow : OpenClaim := { program := "ytlihhnjinakpfaa", sum := "94da971144095ea7b509f8f4a015b6da5d0b77d25bab427c4f133ef54195c12e", func := "apiary/apiarylaw10.RankOrders", spec := "rankOrders", unfollowed := true, recurses := true, apart := false }
def RankOrdersSaid : Prop := rankOrdersRow.holds Try.pinned (OpenSpec.ofChange rankOrdersSpec)

/-- ITS FALSE NEIGHBOUR: 'it returns false'. Refute it at one input. -/
def rankOrdersWrong : ChangeSpec := { name := "rankOrders", fn := fun _ => fun
  | [d1, d2, d3] => { results := [.lit (.bool false)], args := [d1, d2, d3] }
  | _ => none }
def RankOrdersWrongFalsely : Prop := rankOrdersRow.holds Try.pinned (OpenSpec.ofChange rankOrdersWrong)

/-- 'apiarylaw10.RankLists': WHATEVER THE INPUT: true; the input reads as it did. -/
def rankListsSpec : ChangeSpec := { name := "rankLists", fn := fun _ => fun
  | [d] => { results := [.lit (.bool true)], args := [d] }
  | _ => none }
def rankListsRow : OpenClaim := { program := "ytlihhnjinakpfaa", sum := "94da971144095ea7b509f8f4a015b6da5d0b77d25bab427c4f133ef54195c12e", func := "apiary/apiarylaw10.RankLists", spec := "rankLists", unfollowed := true, recurses := true, apart := false }
def RankListsSaid : Prop := rankListsRow.holds Try.pinned (OpenSpec.ofChange rankListsSpec)

/-- ITS FALSE NEIGHBOUR: 'it returns false'. Refute it at one input. -/
def rankListsWrong : ChangeSpec := { name := "rankLists", fn := fun _ => fun
  | [d] => { results := [.lit (.bool false)], args := [d] }
  | _ => none }
def RankListsWrongFalsely : Prop := rankListsRow.holds Try.pinned (OpenSpec.ofChange rankListsWrong)

/- THE SECOND FORM. 'bulk': how many values and letters a reading holds, each counted each time it is reached (what is shared counts as often as it is met; a slice's spare places count too). A statement '..UptoSaid' is the law's where the arguments, and the package variables that the reading takes, are together of bulk at most 1048576: NARROWER than '..Said'. Prove '..Said' where nothing that the law and all that it calls make is longer than what came in: it says more and counts as full. Else prove '..UptoSaid'. A law counts once. -/
mutual
def uptoBulk {H : Type} : DataW H → Nat
  | .lit (.string bytes) => bytes.length + 1
  | .lit _ => 1
  | .nil => 1
  | .ptr d => uptoBulk d + 1
  | .slice elems spare => uptoBulkAll elems + uptoBulkAll spare + 1
  | .agg parts => uptoBulkAll parts + 1
  | .iface _ d => uptoBulk d + 1
  | .map entries => uptoBulkEntries entries + 1
  | .held _ => 1
def uptoBulkAll {H : Type} : List (DataW H) → Nat
  | [] => 0
  | d :: r => uptoBulk d + uptoBulkAll r
def uptoBulkEntries {H : Type} : List (Lit × DataW H) → Nat
  | [] => 0
  | x :: r => uptoBulkEntry x + uptoBulkEntries r
def uptoBulkEntry {H : Type} : Lit × DataW H → Nat
  | (.string bytes, d) => bytes.length + uptoBulk d + 1
  | (_, d) => uptoBulk d + 1
 end
def uptoSmall : (H : Type) → List (DataW H) → Bool := fun _ ds => decide (uptoBulkAll ds ≤ 1048576)
def OpenSpec.upto (s : _root_.Go.ChangeSpec) : _root_.Go.OpenSpec := { _root_.Go.OpenSpec.ofChange s with cond := some uptoSmall }

/-- 'apiarylaw10.RankExact', WHERE WHAT IT READS IS OF BULK AT MOST 1048576: true; the input reads as it did. -/
def rankExactUptoRow : OpenClaim := { program := "ytlihhnjinakpfaa", sum := "94da971144095ea7b509f8f4a015b6da5d0b77d25bab427c4f133ef54195c12e", func := "apiary/apiarylaw10.RankExact", spec := "rankExact", unfollowed := true, recurses := true, apart := false, narrowed := true }
def RankExactUptoSaid : Prop := rankExactUptoRow.holds Try.pinned (OpenSpec.upto rankExactSpec)

/-- 'apiarylaw10.RankMeets', WHERE WHAT IT READS IS OF BULK AT MOST 1048576: true; the input reads as it did. -/
def rankMeetsUptoRow : OpenClaim := { program := "ytlihhnjinakpfaa", sum := "94da971144095ea7b509f8f4a015b6da5d0b77d25bab427c4f133ef54195c12e", func := "apiary/apiarylaw10.RankMeets", spec := "rankMeets", unfollowed := true, recurses := true, apart := false, narrowed := true }
def RankMeetsUptoSaid : Prop := rankMeetsUptoRow.holds Try.pinned (OpenSpec.upto rankMeetsSpec)

/-- 'apiarylaw10.RankRises', WHERE WHAT IT READS IS OF BULK AT MOST 1048576: true; the input reads as it did. -/
def rankRisesUptoRow : OpenClaim := { program := "ytlihhnjinakpfaa", sum := "94da971144095ea7b509f8f4a015b6da5d0b77d25bab427c4f133ef54195c12e", func := "apiary/apiarylaw10.RankRises", spec := "rankRises", unfollowed := true, recurses := true, apart := false, narrowed := true }
def RankRisesUptoSaid : Prop := rankRisesUptoRow.holds Try.pinned (OpenSpec.upto rankRisesSpec)

/-- 'apiarylaw10.RankOrders', WHERE WHAT IT READS IS OF BULK AT MOST 1048576: true; the input reads as it did. -/
def rankOrdersUptoRow : OpenClaim := { program := "ytlihhnjinakpfaa", sum := "94da971144095ea7b509f8f4a015b6da5d0b77d25bab427c4f133ef54195c12e", func := "apiary/apiarylaw10.RankOrders", spec := "rankOrders", unfollowed := true, recurses := true, apart := false, narrowed := true }
def RankOrdersUptoSaid : Prop := rankOrdersUptoRow.holds Try.pinned (OpenSpec.upto rankOrdersSpec)

/-- 'apiarylaw10.RankLists', WHERE WHAT IT READS IS OF BULK AT MOST 1048576: true; the input reads as it did. -/
def rankListsUptoRow : OpenClaim := { program := "ytlihhnjinakpfaa", sum := "94da971144095ea7b509f8f4a015b6da5d0b77d25bab427c4f133ef54195c12e", func := "apiary/apiarylaw10.RankLists", spec := "rankLists", unfollowed := true, recurses := true, apart := false, narrowed := true }
def RankListsUptoSaid : Prop := rankListsUptoRow.holds Try.pinned (OpenSpec.upto rankListsSpec)

end Rows
end Go.Proofs.Ytlihhnjinakpfaa
