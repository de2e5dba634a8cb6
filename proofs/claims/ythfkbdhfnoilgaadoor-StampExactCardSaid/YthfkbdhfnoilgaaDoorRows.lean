/-
  NARROWER THAN 'FOR EVERY INPUT', by the rows' own cells (each row's printed sentence says how): StampExact: laid · StampOrders: laid · StampRows: laid · StampSorts: laid · StampParts: laid · StampBlocks: laid.
  DERIVED. THE GIVEN ROWS OF THIS SEAT. 6 by the template 'for every input the law returns true; each argument reads behind the call as it read before'; 0 by the template 'total and deterministic' (their statements: YthfkbdhfnoilgaaDoorTotals.lean).
  GIVEN WITH THE SEED: the statements are not yours to turn. If you find one false, say at which input.
  Laid BY PROGRAM, IN A SANDBOX (cutbox-rows.mjs): the forced cells as the released guide's own fill.sh prints them over the translation 816cf4bb2911dcae… (all of the seat's roots in one cut). By AI agents, Wed Nov 11 2026. No macro, syntax, notation, axiom, sorry.
-/
import Derived.Test.YthfkbdhfnoilgaaDoorChecked
import GoSem.Claim
import GoSem.ClaimJoined
import GoSem.ClaimMapViews
import Derived.JoinedTies
import Derived.KernelRfl
namespace Go.Proofs.YthfkbdhfnoilgaaDoor
/- THE CELL 'sum', in the pinned program and in every row, IS THE sha256 OF THE DUMP (.gsa) THAT YthfkbdhfnoilgaaDoorProg.lean LOADS. Nothing in Lean hashes anything: it is a label: what it is worth is what the hold of that sum in a sandbox is worth. -/
noncomputable def Tryd.pinned : Pinned := { name := "ythfkbdhfnoilgaadoor", sum := "816cf4bb2911dcae16d3bc623393793a61b02b53afabee076a13c5070ef364a9", checked := Tryd.checked }
namespace Rows
def none {H : Type} : Left H := { results := [], args := [] }

/- WHAT THE LISTED PACKAGE-LEVEL VARIABLES READ AS WHEN THE CALL BEGINS. Each datum BY PROGRAM (the guide's laid-datum.mjs) off the statement by which the dump's own 'gosem.cut.vars' lays the variable. In a bare row this is a premise. The card (YthfkbdhfnoilgaaDoorCards.lean) ties it to the program's text. -/
def laid_apiary_stamp_words {H : Type} : DataW H := .agg [.lit (.int .u32 1116352408), .lit (.int .u32 1899447441), .lit (.int .u32 3049323471), .lit (.int .u32 3921009573), .lit (.int .u32 961987163), .lit (.int .u32 1508970993), .lit (.int .u32 2453635748), .lit (.int .u32 2870763221), .lit (.int .u32 3624381080), .lit (.int .u32 310598401), .lit (.int .u32 607225278), .lit (.int .u32 1426881987), .lit (.int .u32 1925078388), .lit (.int .u32 2162078206), .lit (.int .u32 2614888103), .lit (.int .u32 3248222580), .lit (.int .u32 3835390401), .lit (.int .u32 4022224774), .lit (.int .u32 264347078), .lit (.int .u32 604807628), .lit (.int .u32 770255983), .lit (.int .u32 1249150122), .lit (.int .u32 1555081692), .lit (.int .u32 1996064986), .lit (.int .u32 2554220882), .lit (.int .u32 2821834349), .lit (.int .u32 2952996808), .lit (.int .u32 3210313671), .lit (.int .u32 3336571891), .lit (.int .u32 3584528711), .lit (.int .u32 113926993), .lit (.int .u32 338241895), .lit (.int .u32 666307205), .lit (.int .u32 773529912), .lit (.int .u32 1294757372), .lit (.int .u32 1396182291), .lit (.int .u32 1695183700), .lit (.int .u32 1986661051), .lit (.int .u32 2177026350), .lit (.int .u32 2456956037), .lit (.int .u32 2730485921), .lit (.int .u32 2820302411), .lit (.int .u32 3259730800), .lit (.int .u32 3345764771), .lit (.int .u32 3516065817), .lit (.int .u32 3600352804), .lit (.int .u32 4094571909), .lit (.int .u32 275423344), .lit (.int .u32 430227734), .lit (.int .u32 506948616), .lit (.int .u32 659060556), .lit (.int .u32 883997877), .lit (.int .u32 958139571), .lit (.int .u32 1322822218), .lit (.int .u32 1537002063), .lit (.int .u32 1747873779), .lit (.int .u32 1955562222), .lit (.int .u32 2024104815), .lit (.int .u32 2227730452), .lit (.int .u32 2361852424), .lit (.int .u32 2428436474), .lit (.int .u32 2756734187), .lit (.int .u32 3204031479), .lit (.int .u32 3329325298)]

/-- 'apiarylaw02.StampExact': WHATEVER THE INPUT: true; the input reads as it did. -/
def stampExactSpec : ChangeSpec := { name := "stampExact", fn := fun _ => fun
  | [d] => { results := [.lit (.bool true)], args := [d] }
  | _ => none }
def stampExactRow : OpenClaim := { program := "ythfkbdhfnoilgaadoor", sum := "816cf4bb2911dcae16d3bc623393793a61b02b53afabee076a13c5070ef364a9", func := "apiary/apiarylaw02.StampExact", spec := "stampExact", inPlace := ["internal/abi.NoEscape", "internal/bytealg.Compare"], named := ["apiary/stamp.words"], apart := false, laid := [("apiary/stamp.words", laid_apiary_stamp_words)] }
def StampExactSaid : Prop := stampExactRow.holds Tryd.pinned (OpenSpec.ofChange stampExactSpec)

/-- ITS FALSE NEIGHBOUR: 'it returns false'. Refute it at one input. -/
def stampExactWrong : ChangeSpec := { name := "stampExact", fn := fun _ => fun
  | [d] => { results := [.lit (.bool false)], args := [d] }
  | _ => none }
def StampExactWrongFalsely : Prop := stampExactRow.holds Tryd.pinned (OpenSpec.ofChange stampExactWrong)

/-- 'apiarylaw02.StampOrders': WHATEVER THE INPUT: true; the input reads as it did. -/
def stampOrdersSpec : ChangeSpec := { name := "stampOrders", fn := fun _ => fun
  | [d1, d2] => { results := [.lit (.bool true)], args := [d1, d2] }
  | _ => none }
def stampOrdersRow : OpenClaim := { program := "ythfkbdhfnoilgaadoor", sum := "816cf4bb2911dcae16d3bc623393793a61b02b53afabee076a13c5070ef364a9", func := "apiary/apiarylaw02.StampOrders", spec := "stampOrders", inPlace := ["internal/abi.NoEscape", "internal/bytealg.Compare"], named := ["apiary/stamp.words"], apart := false, laid := [("apiary/stamp.words", laid_apiary_stamp_words)] }
def StampOrdersSaid : Prop := stampOrdersRow.holds Tryd.pinned (OpenSpec.ofChange stampOrdersSpec)

/-- ITS FALSE NEIGHBOUR: 'it returns false'. Refute it at one input. -/
def stampOrdersWrong : ChangeSpec := { name := "stampOrders", fn := fun _ => fun
  | [d1, d2] => { results := [.lit (.bool false)], args := [d1, d2] }
  | _ => none }
def StampOrdersWrongFalsely : Prop := stampOrdersRow.holds Tryd.pinned (OpenSpec.ofChange stampOrdersWrong)

/-- 'apiarylaw02.StampRows': WHATEVER THE INPUT: true; the input reads as it did. -/
def stampRowsSpec : ChangeSpec := { name := "stampRows", fn := fun _ => fun
  | [d1, d2] => { results := [.lit (.bool true)], args := [d1, d2] }
  | _ => none }
def stampRowsRow : OpenClaim := { program := "ythfkbdhfnoilgaadoor", sum := "816cf4bb2911dcae16d3bc623393793a61b02b53afabee076a13c5070ef364a9", func := "apiary/apiarylaw02.StampRows", spec := "stampRows", inPlace := ["internal/abi.NoEscape", "internal/bytealg.Compare"], named := ["apiary/stamp.words"], apart := false, laid := [("apiary/stamp.words", laid_apiary_stamp_words)] }
def StampRowsSaid : Prop := stampRowsRow.holds Tryd.pinned (OpenSpec.ofChange stampRowsSpec)

/-- ITS FALSE NEIGHBOUR: 'it returns false'. Refute it at one input. -/
def stampRowsWrong : ChangeSpec := { name := "stampRows", fn := fun _ => fun
  | [d1, d2] => { results := [.lit (.bool false)], args := [d1, d2] }
  | _ => none }
def StampRowsWrongFalsely : Prop := stampRowsRow.holds Tryd.pinned (OpenSpec.ofChange stampRowsWrong)

/-- 'apiarylaw02.StampSorts': WHATEVER THE INPUT: true; the input reads as it did. -/
def stampSortsSpec : ChangeSpec := { name := "stampSorts", fn := fun _ => fun
  | [d1, d2, d3] => { results := [.lit (.bool true)], args := [d1, d2, d3] }
  | _ => none }
def stampSortsRow : OpenClaim := { program := "ythfkbdhfnoilgaadoor", sum := "816cf4bb2911dcae16d3bc623393793a61b02b53afabee076a13c5070ef364a9", func := "apiary/apiarylaw02.StampSorts", spec := "stampSorts", inPlace := ["internal/abi.NoEscape", "internal/bytealg.Compare"], named := ["apiary/stamp.words"], apart := false, laid := [("apiary/stamp.words", laid_apiary_stamp_words)] }
def StampSortsSaid : Prop := stampSortsRow.holds Tryd.pinned (OpenSpec.ofChange stampSortsSpec)

/-- ITS FALSE NEIGHBOUR: 'it returns false'. Refute it at one input. -/
def stampSortsWrong : ChangeSpec := { name := "stampSorts", fn := fun _ => fun
  | [d1, d2, d3] => { results := [.lit (.bool false)], args := [d1, d2, d3] }
  | _ => none }
def StampSortsWrongFalsely : Prop := stampSortsRow.holds Tryd.pinned (OpenSpec.ofChange stampSortsWrong)

/-- 'apiarylaw02.StampParts': WHATEVER THE INPUT: true; the input reads as it did. -/
def stampPartsSpec : ChangeSpec := { name := "stampParts", fn := fun _ => fun
  | [d] => { results := [.lit (.bool true)], args := [d] }
  | _ => none }
def stampPartsRow : OpenClaim := { program := "ythfkbdhfnoilgaadoor", sum := "816cf4bb2911dcae16d3bc623393793a61b02b53afabee076a13c5070ef364a9", func := "apiary/apiarylaw02.StampParts", spec := "stampParts", inPlace := ["internal/abi.NoEscape", "internal/bytealg.Compare"], named := ["apiary/stamp.words"], apart := false, laid := [("apiary/stamp.words", laid_apiary_stamp_words)] }
def StampPartsSaid : Prop := stampPartsRow.holds Tryd.pinned (OpenSpec.ofChange stampPartsSpec)

/-- ITS FALSE NEIGHBOUR: 'it returns false'. Refute it at one input. -/
def stampPartsWrong : ChangeSpec := { name := "stampParts", fn := fun _ => fun
  | [d] => { results := [.lit (.bool false)], args := [d] }
  | _ => none }
def StampPartsWrongFalsely : Prop := stampPartsRow.holds Tryd.pinned (OpenSpec.ofChange stampPartsWrong)

/-- 'apiarylaw02.StampBlocks': WHATEVER THE INPUT: true; the input reads as it did. -/
def stampBlocksSpec : ChangeSpec := { name := "stampBlocks", fn := fun _ => fun
  | [d1, d2] => { results := [.lit (.bool true)], args := [d1, d2] }
  | _ => none }
def stampBlocksRow : OpenClaim := { program := "ythfkbdhfnoilgaadoor", sum := "816cf4bb2911dcae16d3bc623393793a61b02b53afabee076a13c5070ef364a9", func := "apiary/apiarylaw02.StampBlocks", spec := "stampBlocks", inPlace := ["internal/abi.NoEscape", "internal/bytealg.Compare"], named := ["apiary/stamp.words"], apart := false, laid := [("apiary/stamp.words", laid_apiary_stamp_words)] }
def StampBlocksSaid : Prop := stampBlocksRow.holds Tryd.pinned (OpenSpec.ofChange stampBlocksSpec)

/-- ITS FALSE NEIGHBOUR: 'it returns false'. Refute it at one input. -/
def stampBlocksWrong : ChangeSpec := { name := "stampBlocks", fn := fun _ => fun
  | [d1, d2] => { results := [.lit (.bool false)], args := [d1, d2] }
  | _ => none }
def StampBlocksWrongFalsely : Prop := stampBlocksRow.holds Tryd.pinned (OpenSpec.ofChange stampBlocksWrong)

/- THE SECOND FORM. 'bulk': how many values and letters a reading holds, each counted each time it is reached (what is shared counts as often as it is met; a slice's spare places count too). A statement '..UptoSaid' is the law's where the arguments, and the package variables that the reading takes, are together of bulk at most 1048576: NARROWER than '..Said'. Prove '..Said' where nothing that the law and all that it calls make is longer than what came in: it says more and counts as full. Else prove '..UptoSaid'. A law counts once. -/
mutual
def uptoBulk {H : Type} : DataW H → Nat
  | .lit (.string bytes) => bytes.length + 1
  | .lit _ => 1
  | .nil => 1
  | .ptr d => uptoBulk d + 1
  | .slice elems spare => uptoBulkAll elems + uptoBulkAll spare + 1
  | .agg parts => uptoBulkAll parts + 1
  | .iface _ d => uptoBulk d + 1
  | .map entries => uptoBulkEntries entries + 1
  | .held _ => 1
def uptoBulkAll {H : Type} : List (DataW H) → Nat
  | [] => 0
  | d :: r => uptoBulk d + uptoBulkAll r
def uptoBulkEntries {H : Type} : List (Lit × DataW H) → Nat
  | [] => 0
  | x :: r => uptoBulkEntry x + uptoBulkEntries r
def uptoBulkEntry {H : Type} : Lit × DataW H → Nat
  | (.string bytes, d) => bytes.length + uptoBulk d + 1
  | (_, d) => uptoBulk d + 1
 end
def uptoSmall : (H : Type) → List (DataW H) → Bool := fun _ ds => decide (uptoBulkAll ds ≤ 1048576)
def OpenSpec.upto (s : _root_.Go.ChangeSpec) : _root_.Go.OpenSpec := { _root_.Go.OpenSpec.ofChange s with cond := some uptoSmall }

/-- 'apiarylaw02.StampExact', WHERE WHAT IT READS IS OF BULK AT MOST 1048576: true; the input reads as it did. -/
def stampExactUptoRow : OpenClaim := { program := "ythfkbdhfnoilgaadoor", sum := "816cf4bb2911dcae16d3bc623393793a61b02b53afabee076a13c5070ef364a9", func := "apiary/apiarylaw02.StampExact", spec := "stampExact", inPlace := ["internal/abi.NoEscape", "internal/bytealg.Compare"], named := ["apiary/stamp.words"], apart := false, laid := [("apiary/stamp.words", laid_apiary_stamp_words)], narrowed := true }
def StampExactUptoSaid : Prop := stampExactUptoRow.holds Tryd.pinned (OpenSpec.upto stampExactSpec)

/-- 'apiarylaw02.StampOrders', WHERE WHAT IT READS IS OF BULK AT MOST 1048576: true; the input reads as it did. -/
def stampOrdersUptoRow : OpenClaim := { program := "ythfkbdhfnoilgaadoor", sum := "816cf4bb2911dcae16d3bc623393793a61b02b53afabee076a13c5070ef364a9", func := "apiary/apiarylaw02.StampOrders", spec := "stampOrders", inPlace := ["internal/abi.NoEscape", "internal/bytealg.Compare"], named := ["apiary/stamp.words"], apart := false, laid := [("apiary/stamp.words", laid_apiary_stamp_words)], narrowed := true }
def StampOrdersUptoSaid : Prop := stampOrdersUptoRow.holds Tryd.pinned (OpenSpec.upto stampOrdersSpec)

/-- 'apiarylaw02.StampRows', WHERE WHAT IT READS IS OF BULK AT MOST 1048576: true; the input reads as it did. -/
def stampRowsUptoRow : OpenClaim := { program := "ythfkbdhfnoilgaadoor", sum := "816cf4bb2911dcae16d3bc623393793a61b02b53afabee076a13c5070ef364a9", func := "apiary/apiarylaw02.StampRows", spec := "stampRows", inPlace := ["internal/abi.NoEscape", "internal/bytealg.Compare"], named := ["apiary/stamp.words"], apart := false, laid := [("apiary/stamp.words", laid_apiary_stamp_words)], narrowed := true }
def StampRowsUptoSaid : Prop := stampRowsUptoRow.holds Tryd.pinned (OpenSpec.upto stampRowsSpec)

/-- 'apiarylaw02.StampSorts', WHERE WHAT IT READS IS OF BULK AT MOST 1048576: true; the input reads as it did. -/
def stampSortsUptoRow : OpenClaim := { program := "ythfkbdhfnoilgaadoor", sum := "816cf4bb2911dcae16d3bc623393793a61b02b53afabee076a13c5070ef364a9", func := "apiary/apiarylaw02.StampSorts", spec := "stampSorts", inPlace := ["internal/abi.NoEscape", "internal/bytealg.Compare"], named := ["apiary/stamp.words"], apart := false, laid := [("apiary/stamp.words", laid_apiary_stamp_words)], narrowed := true }
def StampSortsUptoSaid : Prop := stampSortsUptoRow.holds Tryd.pinned (OpenSpec.upto stampSortsSpec)

/-- 'apiarylaw02.StampParts', WHERE WHAT IT READS IS OF BULK AT MOST 1048576: true; the input reads as it did. -/
def stampPartsUptoRow : OpenClaim := { program := "ythfkbdhfnoilgaadoor", sum := "816cf4bb2911dcae16d3bc623393793a61b02b53afabee076a13c5070ef364a9", func := "apiary/apiarylaw02.StampParts", spec := "stampParts", inPlace := ["internal/abi.NoEscape", "internal/bytealg.Compare"], named := ["apiary/stamp.words"], apart := false, laid := [("apiary/stamp.words", laid_apiary_stamp_words)], narrowed := true }
def StampPartsUptoSaid : Prop := stampPartsUptoRow.holds Tryd.pinned (OpenSpec.upto stampPartsSpec)

/-- 'apiarylaw02.StampBlocks', WHERE WHAT IT READS IS OF BULK AT MOST 1048576: true; the input reads as it did. -/
def stampBlocksUptoRow : OpenClaim := { program := "ythfkbdhfnoilgaadoor", sum := "816cf4bb2911dcae16d3bc623393793a61b02b53afabee076a13c5070ef364a9", func := "apiary/apiarylaw02.StampBlocks", spec := "stampBlocks", inPlace := ["internal/abi.NoEscape", "internal/bytealg.Compare"], named := ["apiary/stamp.words"], apart := false, laid := [("apiary/stamp.words", laid_apiary_stamp_words)], narrowed := true }
def StampBlocksUptoSaid : Prop := stampBlocksUptoRow.holds Tryd.pinned (OpenSpec.upto stampBlocksSpec)

end Rows
end Go.Proofs.YthfkbdhfnoilgaaDoor
