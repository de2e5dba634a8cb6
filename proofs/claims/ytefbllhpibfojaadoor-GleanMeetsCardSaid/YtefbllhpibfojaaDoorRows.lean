/-
  NARROWER THAN 'FOR EVERY INPUT', by the rows' own cells (each row's printed sentence says how): HedgeTells: laid · HedgeSorts: laid · HedgeGrows: laid · HedgeExact: laid · HedgeParts: laid · GleanExact: laid · GleanFills: laid · GleanMeets: laid · GleanSame: laid · GleanGives: laid.
  DERIVED. THE GIVEN ROWS OF THIS SEAT. 10 by the template 'for every input the law returns true; each argument reads behind the call as it read before'; 0 by the template 'total and deterministic' (their statements: YtefbllhpibfojaaDoorTotals.lean).
  GIVEN WITH THE SEED: the statements are not yours to turn. If you find one false, say at which input.
  Laid BY PROGRAM, IN A SANDBOX (cutbox-rows.mjs): the forced cells as the released guide's own fill.sh prints them over the translation ccd99fd098c56bf7… (all of the seat's roots in one cut). By AI agents, Wed Nov 11 2026. No macro, syntax, notation, axiom, sorry.
-/
import Derived.Test.YtefbllhpibfojaaDoorChecked
import GoSem.Claim
import GoSem.ClaimJoined
import GoSem.ClaimMapViews
import Derived.JoinedTies
import Derived.KernelRfl
namespace Go.Proofs.YtefbllhpibfojaaDoor
/- THE CELL 'sum', in the pinned program and in every row, IS THE sha256 OF THE DUMP (.gsa) THAT YtefbllhpibfojaaDoorProg.lean LOADS. Nothing in Lean hashes anything: it is a label: what it is worth is what the hold of that sum in a sandbox is worth. -/
noncomputable def Tryd.pinned : Pinned := { name := "ytefbllhpibfojaadoor", sum := "ccd99fd098c56bf7154c7dd6a3386255bf8ad0c90b70ad3fb806bba0e9abfdef", checked := Tryd.checked }
namespace Rows
def none {H : Type} : Left H := { results := [], args := [] }

/- WHAT THE LISTED PACKAGE-LEVEL VARIABLES READ AS WHEN THE CALL BEGINS. Each datum BY PROGRAM (the guide's laid-datum.mjs) off the statement by which the dump's own 'gosem.cut.vars' lays the variable. In a bare row this is a premise. The card (YtefbllhpibfojaaDoorCards.lean) ties it to the program's text. -/
def laid_apiary_stamp_words {H : Type} : DataW H := .agg [.lit (.int .u32 1116352408), .lit (.int .u32 1899447441), .lit (.int .u32 3049323471), .lit (.int .u32 3921009573), .lit (.int .u32 961987163), .lit (.int .u32 1508970993), .lit (.int .u32 2453635748), .lit (.int .u32 2870763221), .lit (.int .u32 3624381080), .lit (.int .u32 310598401), .lit (.int .u32 607225278), .lit (.int .u32 1426881987), .lit (.int .u32 1925078388), .lit (.int .u32 2162078206), .lit (.int .u32 2614888103), .lit (.int .u32 3248222580), .lit (.int .u32 3835390401), .lit (.int .u32 4022224774), .lit (.int .u32 264347078), .lit (.int .u32 604807628), .lit (.int .u32 770255983), .lit (.int .u32 1249150122), .lit (.int .u32 1555081692), .lit (.int .u32 1996064986), .lit (.int .u32 2554220882), .lit (.int .u32 2821834349), .lit (.int .u32 2952996808), .lit (.int .u32 3210313671), .lit (.int .u32 3336571891), .lit (.int .u32 3584528711), .lit (.int .u32 113926993), .lit (.int .u32 338241895), .lit (.int .u32 666307205), .lit (.int .u32 773529912), .lit (.int .u32 1294757372), .lit (.int .u32 1396182291), .lit (.int .u32 1695183700), .lit (.int .u32 1986661051), .lit (.int .u32 2177026350), .lit (.int .u32 2456956037), .lit (.int .u32 2730485921), .lit (.int .u32 2820302411), .lit (.int .u32 3259730800), .lit (.int .u32 3345764771), .lit (.int .u32 3516065817), .lit (.int .u32 3600352804), .lit (.int .u32 4094571909), .lit (.int .u32 275423344), .lit (.int .u32 430227734), .lit (.int .u32 506948616), .lit (.int .u32 659060556), .lit (.int .u32 883997877), .lit (.int .u32 958139571), .lit (.int .u32 1322822218), .lit (.int .u32 1537002063), .lit (.int .u32 1747873779), .lit (.int .u32 1955562222), .lit (.int .u32 2024104815), .lit (.int .u32 2227730452), .lit (.int .u32 2361852424), .lit (.int .u32 2428436474), .lit (.int .u32 2756734187), .lit (.int .u32 3204031479), .lit (.int .u32 3329325298)]

/-- 'apiarylaw15.HedgeTells': WHATEVER THE INPUT: true; the input reads as it did. -/
def hedgeTellsSpec : ChangeSpec := { name := "hedgeTells", fn := fun _ => fun
  | [d1, d2, d3] => { results := [.lit (.bool true)], args := [d1, d2, d3] }
  | _ => none }
def hedgeTellsRow : OpenClaim := { program := "ytefbllhpibfojaadoor", sum := "ccd99fd098c56bf7154c7dd6a3386255bf8ad0c90b70ad3fb806bba0e9abfdef", func := "apiary/apiarylaw15.HedgeTells", spec := "hedgeTells", inPlace := ["internal/bytealg.Compare", "internal/abi.NoEscape"], unfollowed := true, recurses := true, named := ["apiary/stamp.words"], apart := false, laid := [("apiary/stamp.words", laid_apiary_stamp_words)] }
def HedgeTellsSaid : Prop := hedgeTellsRow.holds Tryd.pinned (OpenSpec.ofChange hedgeTellsSpec)

/-- ITS FALSE NEIGHBOUR: 'it returns false'. Refute it at one input. -/
def hedgeTellsWrong : ChangeSpec := { name := "hedgeTells", fn := fun _ => fun
  | [d1, d2, d3] => { results := [.lit (.bool false)], args := [d1, d2, d3] }
  | _ => none }
def HedgeTellsWrongFalsely : Prop := hedgeTellsRow.holds Tryd.pinned (OpenSpec.ofChange hedgeTellsWrong)

/-- 'apiarylaw15.HedgeSorts': WHATEVER THE INPUT: true; the input reads as it did. -/
def hedgeSortsSpec : ChangeSpec := { name := "hedgeSorts", fn := fun _ => fun
  | [d] => { results := [.lit (.bool true)], args := [d] }
  | _ => none }
def hedgeSortsRow : OpenClaim := { program := "ytefbllhpibfojaadoor", sum := "ccd99fd098c56bf7154c7dd6a3386255bf8ad0c90b70ad3fb806bba0e9abfdef", func := "apiary/apiarylaw15.HedgeSorts", spec := "hedgeSorts", inPlace := ["internal/bytealg.Compare", "internal/abi.NoEscape"], unfollowed := true, recurses := true, named := ["apiary/stamp.words"], apart := false, laid := [("apiary/stamp.words", laid_apiary_stamp_words)] }
def HedgeSortsSaid : Prop := hedgeSortsRow.holds Tryd.pinned (OpenSpec.ofChange hedgeSortsSpec)

/-- ITS FALSE NEIGHBOUR: 'it returns false'. Refute it at one input. -/
def hedgeSortsWrong : ChangeSpec := { name := "hedgeSorts", fn := fun _ => fun
  | [d] => { results := [.lit (.bool false)], args := [d] }
  | _ => none }
def HedgeSortsWrongFalsely : Prop := hedgeSortsRow.holds Tryd.pinned (OpenSpec.ofChange hedgeSortsWrong)

/-- 'apiarylaw15.HedgeGrows': WHATEVER THE INPUT: true; the input reads as it did. -/
def hedgeGrowsSpec : ChangeSpec := { name := "hedgeGrows", fn := fun _ => fun
  | [d1, d2, d3] => { results := [.lit (.bool true)], args := [d1, d2, d3] }
  | _ => none }
def hedgeGrowsRow : OpenClaim := { program := "ytefbllhpibfojaadoor", sum := "ccd99fd098c56bf7154c7dd6a3386255bf8ad0c90b70ad3fb806bba0e9abfdef", func := "apiary/apiarylaw15.HedgeGrows", spec := "hedgeGrows", inPlace := ["internal/bytealg.Compare", "internal/abi.NoEscape"], unfollowed := true, recurses := true, named := ["apiary/stamp.words"], apart := false, laid := [("apiary/stamp.words", laid_apiary_stamp_words)] }
def HedgeGrowsSaid : Prop := hedgeGrowsRow.holds Tryd.pinned (OpenSpec.ofChange hedgeGrowsSpec)

/-- ITS FALSE NEIGHBOUR: 'it returns false'. Refute it at one input. -/
def hedgeGrowsWrong : ChangeSpec := { name := "hedgeGrows", fn := fun _ => fun
  | [d1, d2, d3] => { results := [.lit (.bool false)], args := [d1, d2, d3] }
  | _ => none }
def HedgeGrowsWrongFalsely : Prop := hedgeGrowsRow.holds Tryd.pinned (OpenSpec.ofChange hedgeGrowsWrong)

/-- 'apiarylaw15.HedgeExact': WHATEVER THE INPUT: true; the input reads as it did. -/
def hedgeExactSpec : ChangeSpec := { name := "hedgeExact", fn := fun _ => fun
  | [d1, d2, d3] => { results := [.lit (.bool true)], args := [d1, d2, d3] }
  | _ => none }
def hedgeExactRow : OpenClaim := { program := "ytefbllhpibfojaadoor", sum := "ccd99fd098c56bf7154c7dd6a3386255bf8ad0c90b70ad3fb806bba0e9abfdef", func := "apiary/apiarylaw15.HedgeExact", spec := "hedgeExact", inPlace := ["internal/bytealg.Compare", "internal/abi.NoEscape"], unfollowed := true, recurses := true, named := ["apiary/stamp.words"], apart := false, laid := [("apiary/stamp.words", laid_apiary_stamp_words)] }
def HedgeExactSaid : Prop := hedgeExactRow.holds Tryd.pinned (OpenSpec.ofChange hedgeExactSpec)

/-- ITS FALSE NEIGHBOUR: 'it returns false'. Refute it at one input. -/
def hedgeExactWrong : ChangeSpec := { name := "hedgeExact", fn := fun _ => fun
  | [d1, d2, d3] => { results := [.lit (.bool false)], args := [d1, d2, d3] }
  | _ => none }
def HedgeExactWrongFalsely : Prop := hedgeExactRow.holds Tryd.pinned (OpenSpec.ofChange hedgeExactWrong)

/-- 'apiarylaw15.HedgeParts': WHATEVER THE INPUT: true; the input reads as it did. -/
def hedgePartsSpec : ChangeSpec := { name := "hedgeParts", fn := fun _ => fun
  | [d1, d2, d3] => { results := [.lit (.bool true)], args := [d1, d2, d3] }
  | _ => none }
def hedgePartsRow : OpenClaim := { program := "ytefbllhpibfojaadoor", sum := "ccd99fd098c56bf7154c7dd6a3386255bf8ad0c90b70ad3fb806bba0e9abfdef", func := "apiary/apiarylaw15.HedgeParts", spec := "hedgeParts", inPlace := ["internal/bytealg.Compare", "internal/abi.NoEscape"], unfollowed := true, recurses := true, named := ["apiary/stamp.words"], apart := false, laid := [("apiary/stamp.words", laid_apiary_stamp_words)] }
def HedgePartsSaid : Prop := hedgePartsRow.holds Tryd.pinned (OpenSpec.ofChange hedgePartsSpec)

/-- ITS FALSE NEIGHBOUR: 'it returns false'. Refute it at one input. -/
def hedgePartsWrong : ChangeSpec := { name := "hedgeParts", fn := fun _ => fun
  | [d1, d2, d3] => { results := [.lit (.bool false)], args := [d1, d2, d3] }
  | _ => none }
def HedgePartsWrongFalsely : Prop := hedgePartsRow.holds Tryd.pinned (OpenSpec.ofChange hedgePartsWrong)

/-- 'apiarylaw16.GleanExact': WHATEVER THE INPUT: true; the input reads as it did. -/
def gleanExactSpec : ChangeSpec := { name := "gleanExact", fn := fun _ => fun
  | [d1, d2] => { results := [.lit (.bool true)], args := [d1, d2] }
  | _ => none }
def gleanExactRow : OpenClaim := { program := "ytefbllhpibfojaadoor", sum := "ccd99fd098c56bf7154c7dd6a3386255bf8ad0c90b70ad3fb806bba0e9abfdef", func := "apiary/apiarylaw16.GleanExact", spec := "gleanExact", inPlace := ["internal/bytealg.Compare", "internal/abi.NoEscape"], unfollowed := true, recurses := true, named := ["apiary/stamp.words"], apart := false, laid := [("apiary/stamp.words", laid_apiary_stamp_words)] }
def GleanExactSaid : Prop := gleanExactRow.holds Tryd.pinned (OpenSpec.ofChange gleanExactSpec)

/-- ITS FALSE NEIGHBOUR: 'it returns false'. Refute it at one input. -/
def gleanExactWrong : ChangeSpec := { name := "gleanExact", fn := fun _ => fun
  | [d1, d2] => { results := [.lit (.bool false)], args := [d1, d2] }
  | _ => none }
def GleanExactWrongFalsely : Prop := gleanExactRow.holds Tryd.pinned (OpenSpec.ofChange gleanExactWrong)

/-- 'apiarylaw16.GleanFills': WHATEVER THE INPUT: true; the input reads as it did. -/
def gleanFillsSpec : ChangeSpec := { name := "gleanFills", fn := fun _ => fun
  | [d1, d2, d3] => { results := [.lit (.bool true)], args := [d1, d2, d3] }
  | _ => none }
def gleanFillsRow : OpenClaim := { program := "ytefbllhpibfojaadoor", sum := "ccd99fd098c56bf7154c7dd6a3386255bf8ad0c90b70ad3fb806bba0e9abfdef", func := "apiary/apiarylaw16.GleanFills", spec := "gleanFills", inPlace := ["internal/bytealg.Compare", "internal/abi.NoEscape"], unfollowed := true, recurses := true, named := ["apiary/stamp.words"], apart := false, laid := [("apiary/stamp.words", laid_apiary_stamp_words)] }
def GleanFillsSaid : Prop := gleanFillsRow.holds Tryd.pinned (OpenSpec.ofChange gleanFillsSpec)

/-- ITS FALSE NEIGHBOUR: 'it returns false'. Refute it at one input. -/
def gleanFillsWrong : ChangeSpec := { name := "gleanFills", fn := fun _ => fun
  | [d1, d2, d3] => { results := [.lit (.bool false)], args := [d1, d2, d3] }
  | _ => none }
def GleanFillsWrongFalsely : Prop := gleanFillsRow.holds Tryd.pinned (OpenSpec.ofChange gleanFillsWrong)

/-- 'apiarylaw16.GleanMeets': WHATEVER THE INPUT: true; the input reads as it did. -/
def gleanMeetsSpec : ChangeSpec := { name := "gleanMeets", fn := fun _ => fun
  | [d1, d2] => { results := [.lit (.bool true)], args := [d1, d2] }
  | _ => none }
def gleanMeetsRow : OpenClaim := { program := "ytefbllhpibfojaadoor", sum := "ccd99fd098c56bf7154c7dd6a3386255bf8ad0c90b70ad3fb806bba0e9abfdef", func := "apiary/apiarylaw16.GleanMeets", spec := "gleanMeets", inPlace := ["internal/bytealg.Compare", "internal/abi.NoEscape"], unfollowed := true, recurses := true, named := ["apiary/stamp.words"], apart := false, laid := [("apiary/stamp.words", laid_apiary_stamp_words)] }
def GleanMeetsSaid : Prop := gleanMeetsRow.holds Tryd.pinned (OpenSpec.ofChange gleanMeetsSpec)

/-- ITS FALSE NEIGHBOUR: 'it returns false'. Refute it at one input. -/
def gleanMeetsWrong : ChangeSpec := { name := "gleanMeets", fn := fun _ => fun
  | [d1, d2] => { results := [.lit (.bool false)], args := [d1, d2] }
  | _ => none }
def GleanMeetsWrongFalsely : Prop := gleanMeetsRow.holds Tryd.pinned (OpenSpec.ofChange gleanMeetsWrong)

/-- 'apiarylaw16.GleanSame': WHATEVER THE INPUT: true; the input reads as it did. -/
def gleanSameSpec : ChangeSpec := { name := "gleanSame", fn := fun _ => fun
  | [d1, d2] => { results := [.lit (.bool true)], args := [d1, d2] }
  | _ => none }
def gleanSameRow : OpenClaim := { program := "ytefbllhpibfojaadoor", sum := "ccd99fd098c56bf7154c7dd6a3386255bf8ad0c90b70ad3fb806bba0e9abfdef", func := "apiary/apiarylaw16.GleanSame", spec := "gleanSame", inPlace := ["internal/bytealg.Compare", "internal/abi.NoEscape"], unfollowed := true, recurses := true, named := ["apiary/stamp.words"], apart := false, laid := [("apiary/stamp.words", laid_apiary_stamp_words)] }
def GleanSameSaid : Prop := gleanSameRow.holds Tryd.pinned (OpenSpec.ofChange gleanSameSpec)

/-- ITS FALSE NEIGHBOUR: 'it returns false'. Refute it at one input. -/
def gleanSameWrong : ChangeSpec := { name := "gleanSame", fn := fun _ => fun
  | [d1, d2] => { results := [.lit (.bool false)], args := [d1, d2] }
  | _ => none }
def GleanSameWrongFalsely : Prop := gleanSameRow.holds Tryd.pinned (OpenSpec.ofChange gleanSameWrong)

/-- 'apiarylaw16.GleanGives': WHATEVER THE INPUT: true; the input reads as it did. -/
def gleanGivesSpec : ChangeSpec := { name := "gleanGives", fn := fun _ => fun
  | [d1, d2, d3] => { results := [.lit (.bool true)], args := [d1, d2, d3] }
  | _ => none }
def gleanGivesRow : OpenClaim := { program := "ytefbllhpibfojaadoor", sum := "ccd99fd098c56bf7154c7dd6a3386255bf8ad0c90b70ad3fb806bba0e9abfdef", func := "apiary/apiarylaw16.GleanGives", spec := "gleanGives", inPlace := ["internal/bytealg.Compare", "internal/abi.NoEscape"], unfollowed := true, recurses := true, named := ["apiary/stamp.words"], apart := false, laid := [("apiary/stamp.words", laid_apiary_stamp_words)] }
def GleanGivesSaid : Prop := gleanGivesRow.holds Tryd.pinned (OpenSpec.ofChange gleanGivesSpec)

/-- ITS FALSE NEIGHBOUR: 'it returns false'. Refute it at one input. -/
def gleanGivesWrong : ChangeSpec := { name := "gleanGives", fn := fun _ => fun
  | [d1, d2, d3] => { results := [.lit (.bool false)], args := [d1, d2, d3] }
  | _ => none }
def GleanGivesWrongFalsely : Prop := gleanGivesRow.holds Tryd.pinned (OpenSpec.ofChange gleanGivesWrong)

/- THE SECOND FORM. 'bulk': how many values and letters a reading holds, each counted each time it is reached (what is shared counts as often as it is met; a slice's spare places count too). A statement '..UptoSaid' is the law's where the arguments, and the package variables that the reading takes, are together of bulk at most 1048576: NARROWER than '..Said'. Prove '..Said' where nothing that the law and all that it calls make is longer than what came in: it says more and counts as full. Else prove '..UptoSaid'. A law counts once. -/
mutual
def uptoBulk {H : Type} : DataW H → Nat
  | .lit (.string bytes) => bytes.length + 1
  | .lit _ => 1
  | .nil => 1
  | .ptr d => uptoBulk d + 1
  | .slice elems spare => uptoBulkAll elems + uptoBulkAll spare + 1
  | .agg parts => uptoBulkAll parts + 1
  | .iface _ d => uptoBulk d + 1
  | .map entries => uptoBulkEntries entries + 1
  | .held _ => 1
def uptoBulkAll {H : Type} : List (DataW H) → Nat
  | [] => 0
  | d :: r => uptoBulk d + uptoBulkAll r
def uptoBulkEntries {H : Type} : List (Lit × DataW H) → Nat
  | [] => 0
  | x :: r => uptoBulkEntry x + uptoBulkEntries r
def uptoBulkEntry {H : Type} : Lit × DataW H → Nat
  | (.string bytes, d) => bytes.length + uptoBulk d + 1
  | (_, d) => uptoBulk d + 1
 end
def uptoSmall : (H : Type) → List (DataW H) → Bool := fun _ ds => decide (uptoBulkAll ds ≤ 1048576)
def OpenSpec.upto (s : _root_.Go.ChangeSpec) : _root_.Go.OpenSpec := { _root_.Go.OpenSpec.ofChange s with cond := some uptoSmall }

/-- 'apiarylaw15.HedgeTells', WHERE WHAT IT READS IS OF BULK AT MOST 1048576: true; the input reads as it did. -/
def hedgeTellsUptoRow : OpenClaim := { program := "ytefbllhpibfojaadoor", sum := "ccd99fd098c56bf7154c7dd6a3386255bf8ad0c90b70ad3fb806bba0e9abfdef", func := "apiary/apiarylaw15.HedgeTells", spec := "hedgeTells", inPlace := ["internal/bytealg.Compare", "internal/abi.NoEscape"], unfollowed := true, recurses := true, named := ["apiary/stamp.words"], apart := false, laid := [("apiary/stamp.words", laid_apiary_stamp_words)], narrowed := true }
def HedgeTellsUptoSaid : Prop := hedgeTellsUptoRow.holds Tryd.pinned (OpenSpec.upto hedgeTellsSpec)

/-- 'apiarylaw15.HedgeSorts', WHERE WHAT IT READS IS OF BULK AT MOST 1048576: true; the input reads as it did. -/
def hedgeSortsUptoRow : OpenClaim := { program := "ytefbllhpibfojaadoor", sum := "ccd99fd098c56bf7154c7dd6a3386255bf8ad0c90b70ad3fb806bba0e9abfdef", func := "apiary/apiarylaw15.HedgeSorts", spec := "hedgeSorts", inPlace := ["internal/bytealg.Compare", "internal/abi.NoEscape"], unfollowed := true, recurses := true, named := ["apiary/stamp.words"], apart := false, laid := [("apiary/stamp.words", laid_apiary_stamp_words)], narrowed := true }
def HedgeSortsUptoSaid : Prop := hedgeSortsUptoRow.holds Tryd.pinned (OpenSpec.upto hedgeSortsSpec)

/-- 'apiarylaw15.HedgeGrows', WHERE WHAT IT READS IS OF BULK AT MOST 1048576: true; the input reads as it did. -/
def hedgeGrowsUptoRow : OpenClaim := { program := "ytefbllhpibfojaadoor", sum := "ccd99fd098c56bf7154c7dd6a3386255bf8ad0c90b70ad3fb806bba0e9abfdef", func := "apiary/apiarylaw15.HedgeGrows", spec := "hedgeGrows", inPlace := ["internal/bytealg.Compare", "internal/abi.NoEscape"], unfollowed := true, recurses := true, named := ["apiary/stamp.words"], apart := false, laid := [("apiary/stamp.words", laid_apiary_stamp_words)], narrowed := true }
def HedgeGrowsUptoSaid : Prop := hedgeGrowsUptoRow.holds Tryd.pinned (OpenSpec.upto hedgeGrowsSpec)

/-- 'apiarylaw15.HedgeExact', WHERE WHAT IT READS IS OF BULK AT MOST 1048576: true; the input reads as it did. -/
def hedgeExactUptoRow : OpenClaim := { program := "ytefbllhpibfojaadoor", sum := "ccd99fd098c56bf7154c7dd6a3386255bf8ad0c90b70ad3fb806bba0e9abfdef", func := "apiary/apiarylaw15.HedgeExact", spec := "hedgeExact", inPlace := ["internal/bytealg.Compare", "internal/abi.NoEscape"], unfollowed := true, recurses := true, named := ["apiary/stamp.words"], apart := false, laid := [("apiary/stamp.words", laid_apiary_stamp_words)], narrowed := true }
def HedgeExactUptoSaid : Prop := hedgeExactUptoRow.holds Tryd.pinned (OpenSpec.upto hedgeExactSpec)

/-- 'apiarylaw15.HedgeParts', WHERE WHAT IT READS IS OF BULK AT MOST 1048576: true; the input reads as it did. -/
def hedgePartsUptoRow : OpenClaim := { program := "ytefbllhpibfojaadoor", sum := "ccd99fd098c56bf7154c7dd6a3386255bf8ad0c90b70ad3fb806bba0e9abfdef", func := "apiary/apiarylaw15.HedgeParts", spec := "hedgeParts", inPlace := ["internal/bytealg.Compare", "internal/abi.NoEscape"], unfollowed := true, recurses := true, named := ["apiary/stamp.words"], apart := false, laid := [("apiary/stamp.words", laid_apiary_stamp_words)], narrowed := true }
def HedgePartsUptoSaid : Prop := hedgePartsUptoRow.holds Tryd.pinned (OpenSpec.upto hedgePartsSpec)

/-- 'apiarylaw16.GleanExact', WHERE WHAT IT READS IS OF BULK AT MOST 1048576: true; the input reads as it did. -/
def gleanExactUptoRow : OpenClaim := { program := "ytefbllhpibfojaadoor", sum := "ccd99fd098c56bf7154c7dd6a3386255bf8ad0c90b70ad3fb806bba0e9abfdef", func := "apiary/apiarylaw16.GleanExact", spec := "gleanExact", inPlace := ["internal/bytealg.Compare", "internal/abi.NoEscape"], unfollowed := true, recurses := true, named := ["apiary/stamp.words"], apart := false, laid := [("apiary/stamp.words", laid_apiary_stamp_words)], narrowed := true }
def GleanExactUptoSaid : Prop := gleanExactUptoRow.holds Tryd.pinned (OpenSpec.upto gleanExactSpec)

/-- 'apiarylaw16.GleanFills', WHERE WHAT IT READS IS OF BULK AT MOST 1048576: true; the input reads as it did. -/
def gleanFillsUptoRow : OpenClaim := { program := "ytefbllhpibfojaadoor", sum := "ccd99fd098c56bf7154c7dd6a3386255bf8ad0c90b70ad3fb806bba0e9abfdef", func := "apiary/apiarylaw16.GleanFills", spec := "gleanFills", inPlace := ["internal/bytealg.Compare", "internal/abi.NoEscape"], unfollowed := true, recurses := true, named := ["apiary/stamp.words"], apart := false, laid := [("apiary/stamp.words", laid_apiary_stamp_words)], narrowed := true }
def GleanFillsUptoSaid : Prop := gleanFillsUptoRow.holds Tryd.pinned (OpenSpec.upto gleanFillsSpec)

/-- 'apiarylaw16.GleanMeets', WHERE WHAT IT READS IS OF BULK AT MOST 1048576: true; the input reads as it did. -/
def gleanMeetsUptoRow : OpenClaim := { program := "ytefbllhpibfojaadoor", sum := "ccd99fd098c56bf7154c7dd6a3386255bf8ad0c90b70ad3fb806bba0e9abfdef", func := "apiary/apiarylaw16.GleanMeets", spec := "gleanMeets", inPlace := ["internal/bytealg.Compare", "internal/abi.NoEscape"], unfollowed := true, recurses := true, named := ["apiary/stamp.words"], apart := false, laid := [("apiary/stamp.words", laid_apiary_stamp_words)], narrowed := true }
def GleanMeetsUptoSaid : Prop := gleanMeetsUptoRow.holds Tryd.pinned (OpenSpec.upto gleanMeetsSpec)

/-- 'apiarylaw16.GleanSame', WHERE WHAT IT READS IS OF BULK AT MOST 1048576: true; the input reads as it did. -/
def gleanSameUptoRow : OpenClaim := { program := "ytefbllhpibfojaadoor", sum := "ccd99fd098c56bf7154c7dd6a3386255bf8ad0c90b70ad3fb806bba0e9abfdef", func := "apiary/apiarylaw16.GleanSame", spec := "gleanSame", inPlace := ["internal/bytealg.Compare", "internal/abi.NoEscape"], unfollowed := true, recurses := true, named := ["apiary/stamp.words"], apart := false, laid := [("apiary/stamp.words", laid_apiary_stamp_words)], narrowed := true }
def GleanSameUptoSaid : Prop := gleanSameUptoRow.holds Tryd.pinned (OpenSpec.upto gleanSameSpec)

/-- 'apiarylaw16.GleanGives', WHERE WHAT IT READS IS OF BULK AT MOST 1048576: true; the input reads as it did. -/
def gleanGivesUptoRow : OpenClaim := { program := "ytefbllhpibfojaadoor", sum := "ccd99fd098c56bf7154c7dd6a3386255bf8ad0c90b70ad3fb806bba0e9abfdef", func := "apiary/apiarylaw16.GleanGives", spec := "gleanGives", inPlace := ["internal/bytealg.Compare", "internal/abi.NoEscape"], unfollowed := true, recurses := true, named := ["apiary/stamp.words"], apart := false, laid := [("apiary/stamp.words", laid_apiary_stamp_words)], narrowed := true }
def GleanGivesUptoSaid : Prop := gleanGivesUptoRow.holds Tryd.pinned (OpenSpec.upto gleanGivesSpec)

end Rows
end Go.Proofs.YtefbllhpibfojaaDoor
