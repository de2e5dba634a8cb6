/-
  DERIVED. GIVEN WITH THE SEED: THE CARDS: each row of YtefbllhpibfojaaDoorRows.lean that lists a variable, with what it lists TIED to the program's text (the seventh form; the later family's looks); each row that meets fmt, with fmt's text TOLD by the authors' own Lean function (tested against real Go, not proved from fmt's source: count such statements apart). THE CARD IS WHAT COUNTS. Prove the row's statement (the work); the ties are given (YtefbllhpibfojaaDoorTie.lean); close each card by the builder's one call (the guide's Derived/Test/ToyasCard.lean, 'card_holds'). Laid BY PROGRAM, IN A SANDBOX (cutbox-door.mjs). By AI agents, Wed Nov 11 2026. No macro, syntax, notation, axiom, sorry.
-/
import Derived.Test.YtefbllhpibfojaaDoorRows
import GoSem.ClaimSeven
namespace Go.Proofs.YtefbllhpibfojaaDoor
namespace Rows

/-- THE TIED CARD OF 'apiarylaw15.HedgeTells'. -/
def hedgeTellsCard : Claim7 := { stood := { row := hedgeTellsRow, standIns := [], harness := (true, "1b47de7acc506533245e8c7de0f9f3bb4f50d149e43cfe307ca18a6b1e24a118"), looks := false }, kinds := [], alts := [], laidByText := true, laidKinds := [.data], laidTests := true, laidLooks := .later }
def HedgeTellsCardSaid : Prop := Claim7.holds Tryd.pinned (.plain (OpenSpec.ofChange hedgeTellsSpec)) hedgeTellsCard

/-- THE TIED CARD OF 'apiarylaw15.HedgeSorts'. -/
def hedgeSortsCard : Claim7 := { stood := { row := hedgeSortsRow, standIns := [], harness := (true, "1b47de7acc506533245e8c7de0f9f3bb4f50d149e43cfe307ca18a6b1e24a118"), looks := false }, kinds := [], alts := [], laidByText := true, laidKinds := [.data], laidTests := true, laidLooks := .later }
def HedgeSortsCardSaid : Prop := Claim7.holds Tryd.pinned (.plain (OpenSpec.ofChange hedgeSortsSpec)) hedgeSortsCard

/-- THE TIED CARD OF 'apiarylaw15.HedgeGrows'. -/
def hedgeGrowsCard : Claim7 := { stood := { row := hedgeGrowsRow, standIns := [], harness := (true, "1b47de7acc506533245e8c7de0f9f3bb4f50d149e43cfe307ca18a6b1e24a118"), looks := false }, kinds := [], alts := [], laidByText := true, laidKinds := [.data], laidTests := true, laidLooks := .later }
def HedgeGrowsCardSaid : Prop := Claim7.holds Tryd.pinned (.plain (OpenSpec.ofChange hedgeGrowsSpec)) hedgeGrowsCard

/-- THE TIED CARD OF 'apiarylaw15.HedgeExact'. -/
def hedgeExactCard : Claim7 := { stood := { row := hedgeExactRow, standIns := [], harness := (true, "1b47de7acc506533245e8c7de0f9f3bb4f50d149e43cfe307ca18a6b1e24a118"), looks := false }, kinds := [], alts := [], laidByText := true, laidKinds := [.data], laidTests := true, laidLooks := .later }
def HedgeExactCardSaid : Prop := Claim7.holds Tryd.pinned (.plain (OpenSpec.ofChange hedgeExactSpec)) hedgeExactCard

/-- THE TIED CARD OF 'apiarylaw15.HedgeParts'. -/
def hedgePartsCard : Claim7 := { stood := { row := hedgePartsRow, standIns := [], harness := (true, "1b47de7acc506533245e8c7de0f9f3bb4f50d149e43cfe307ca18a6b1e24a118"), looks := false }, kinds := [], alts := [], laidByText := true, laidKinds := [.data], laidTests := true, laidLooks := .later }
def HedgePartsCardSaid : Prop := Claim7.holds Tryd.pinned (.plain (OpenSpec.ofChange hedgePartsSpec)) hedgePartsCard

/-- THE TIED CARD OF 'apiarylaw16.GleanExact'. -/
def gleanExactCard : Claim7 := { stood := { row := gleanExactRow, standIns := [], harness := (true, "1b47de7acc506533245e8c7de0f9f3bb4f50d149e43cfe307ca18a6b1e24a118"), looks := false }, kinds := [], alts := [], laidByText := true, laidKinds := [.data], laidTests := true, laidLooks := .later }
def GleanExactCardSaid : Prop := Claim7.holds Tryd.pinned (.plain (OpenSpec.ofChange gleanExactSpec)) gleanExactCard

/-- THE TIED CARD OF 'apiarylaw16.GleanFills'. -/
def gleanFillsCard : Claim7 := { stood := { row := gleanFillsRow, standIns := [], harness := (true, "1b47de7acc506533245e8c7de0f9f3bb4f50d149e43cfe307ca18a6b1e24a118"), looks := false }, kinds := [], alts := [], laidByText := true, laidKinds := [.data], laidTests := true, laidLooks := .later }
def GleanFillsCardSaid : Prop := Claim7.holds Tryd.pinned (.plain (OpenSpec.ofChange gleanFillsSpec)) gleanFillsCard

/-- THE TIED CARD OF 'apiarylaw16.GleanMeets'. -/
def gleanMeetsCard : Claim7 := { stood := { row := gleanMeetsRow, standIns := [], harness := (true, "1b47de7acc506533245e8c7de0f9f3bb4f50d149e43cfe307ca18a6b1e24a118"), looks := false }, kinds := [], alts := [], laidByText := true, laidKinds := [.data], laidTests := true, laidLooks := .later }
def GleanMeetsCardSaid : Prop := Claim7.holds Tryd.pinned (.plain (OpenSpec.ofChange gleanMeetsSpec)) gleanMeetsCard

/-- THE TIED CARD OF 'apiarylaw16.GleanSame'. -/
def gleanSameCard : Claim7 := { stood := { row := gleanSameRow, standIns := [], harness := (true, "1b47de7acc506533245e8c7de0f9f3bb4f50d149e43cfe307ca18a6b1e24a118"), looks := false }, kinds := [], alts := [], laidByText := true, laidKinds := [.data], laidTests := true, laidLooks := .later }
def GleanSameCardSaid : Prop := Claim7.holds Tryd.pinned (.plain (OpenSpec.ofChange gleanSameSpec)) gleanSameCard

/-- THE TIED CARD OF 'apiarylaw16.GleanGives'. -/
def gleanGivesCard : Claim7 := { stood := { row := gleanGivesRow, standIns := [], harness := (true, "1b47de7acc506533245e8c7de0f9f3bb4f50d149e43cfe307ca18a6b1e24a118"), looks := false }, kinds := [], alts := [], laidByText := true, laidKinds := [.data], laidTests := true, laidLooks := .later }
def GleanGivesCardSaid : Prop := Claim7.holds Tryd.pinned (.plain (OpenSpec.ofChange gleanGivesSpec)) gleanGivesCard

/-- THE SECOND FORM's CARD OF 'apiarylaw15.HedgeTells'. -/
def hedgeTellsUptoCard : Claim7 := { stood := { row := hedgeTellsUptoRow, standIns := [], harness := (true, "1b47de7acc506533245e8c7de0f9f3bb4f50d149e43cfe307ca18a6b1e24a118"), looks := false }, kinds := [], alts := [], laidByText := true, laidKinds := [.data], laidTests := true, laidLooks := .later }
def HedgeTellsUptoCardSaid : Prop := Claim7.holds Tryd.pinned (.plain (OpenSpec.upto hedgeTellsSpec)) hedgeTellsUptoCard

/-- THE SECOND FORM's CARD OF 'apiarylaw15.HedgeSorts'. -/
def hedgeSortsUptoCard : Claim7 := { stood := { row := hedgeSortsUptoRow, standIns := [], harness := (true, "1b47de7acc506533245e8c7de0f9f3bb4f50d149e43cfe307ca18a6b1e24a118"), looks := false }, kinds := [], alts := [], laidByText := true, laidKinds := [.data], laidTests := true, laidLooks := .later }
def HedgeSortsUptoCardSaid : Prop := Claim7.holds Tryd.pinned (.plain (OpenSpec.upto hedgeSortsSpec)) hedgeSortsUptoCard

/-- THE SECOND FORM's CARD OF 'apiarylaw15.HedgeGrows'. -/
def hedgeGrowsUptoCard : Claim7 := { stood := { row := hedgeGrowsUptoRow, standIns := [], harness := (true, "1b47de7acc506533245e8c7de0f9f3bb4f50d149e43cfe307ca18a6b1e24a118"), looks := false }, kinds := [], alts := [], laidByText := true, laidKinds := [.data], laidTests := true, laidLooks := .later }
def HedgeGrowsUptoCardSaid : Prop := Claim7.holds Tryd.pinned (.plain (OpenSpec.upto hedgeGrowsSpec)) hedgeGrowsUptoCard

/-- THE SECOND FORM's CARD OF 'apiarylaw15.HedgeExact'. -/
def hedgeExactUptoCard : Claim7 := { stood := { row := hedgeExactUptoRow, standIns := [], harness := (true, "1b47de7acc506533245e8c7de0f9f3bb4f50d149e43cfe307ca18a6b1e24a118"), looks := false }, kinds := [], alts := [], laidByText := true, laidKinds := [.data], laidTests := true, laidLooks := .later }
def HedgeExactUptoCardSaid : Prop := Claim7.holds Tryd.pinned (.plain (OpenSpec.upto hedgeExactSpec)) hedgeExactUptoCard

/-- THE SECOND FORM's CARD OF 'apiarylaw15.HedgeParts'. -/
def hedgePartsUptoCard : Claim7 := { stood := { row := hedgePartsUptoRow, standIns := [], harness := (true, "1b47de7acc506533245e8c7de0f9f3bb4f50d149e43cfe307ca18a6b1e24a118"), looks := false }, kinds := [], alts := [], laidByText := true, laidKinds := [.data], laidTests := true, laidLooks := .later }
def HedgePartsUptoCardSaid : Prop := Claim7.holds Tryd.pinned (.plain (OpenSpec.upto hedgePartsSpec)) hedgePartsUptoCard

/-- THE SECOND FORM's CARD OF 'apiarylaw16.GleanExact'. -/
def gleanExactUptoCard : Claim7 := { stood := { row := gleanExactUptoRow, standIns := [], harness := (true, "1b47de7acc506533245e8c7de0f9f3bb4f50d149e43cfe307ca18a6b1e24a118"), looks := false }, kinds := [], alts := [], laidByText := true, laidKinds := [.data], laidTests := true, laidLooks := .later }
def GleanExactUptoCardSaid : Prop := Claim7.holds Tryd.pinned (.plain (OpenSpec.upto gleanExactSpec)) gleanExactUptoCard

/-- THE SECOND FORM's CARD OF 'apiarylaw16.GleanFills'. -/
def gleanFillsUptoCard : Claim7 := { stood := { row := gleanFillsUptoRow, standIns := [], harness := (true, "1b47de7acc506533245e8c7de0f9f3bb4f50d149e43cfe307ca18a6b1e24a118"), looks := false }, kinds := [], alts := [], laidByText := true, laidKinds := [.data], laidTests := true, laidLooks := .later }
def GleanFillsUptoCardSaid : Prop := Claim7.holds Tryd.pinned (.plain (OpenSpec.upto gleanFillsSpec)) gleanFillsUptoCard

/-- THE SECOND FORM's CARD OF 'apiarylaw16.GleanMeets'. -/
def gleanMeetsUptoCard : Claim7 := { stood := { row := gleanMeetsUptoRow, standIns := [], harness := (true, "1b47de7acc506533245e8c7de0f9f3bb4f50d149e43cfe307ca18a6b1e24a118"), looks := false }, kinds := [], alts := [], laidByText := true, laidKinds := [.data], laidTests := true, laidLooks := .later }
def GleanMeetsUptoCardSaid : Prop := Claim7.holds Tryd.pinned (.plain (OpenSpec.upto gleanMeetsSpec)) gleanMeetsUptoCard

/-- THE SECOND FORM's CARD OF 'apiarylaw16.GleanSame'. -/
def gleanSameUptoCard : Claim7 := { stood := { row := gleanSameUptoRow, standIns := [], harness := (true, "1b47de7acc506533245e8c7de0f9f3bb4f50d149e43cfe307ca18a6b1e24a118"), looks := false }, kinds := [], alts := [], laidByText := true, laidKinds := [.data], laidTests := true, laidLooks := .later }
def GleanSameUptoCardSaid : Prop := Claim7.holds Tryd.pinned (.plain (OpenSpec.upto gleanSameSpec)) gleanSameUptoCard

/-- THE SECOND FORM's CARD OF 'apiarylaw16.GleanGives'. -/
def gleanGivesUptoCard : Claim7 := { stood := { row := gleanGivesUptoRow, standIns := [], harness := (true, "1b47de7acc506533245e8c7de0f9f3bb4f50d149e43cfe307ca18a6b1e24a118"), looks := false }, kinds := [], alts := [], laidByText := true, laidKinds := [.data], laidTests := true, laidLooks := .later }
def GleanGivesUptoCardSaid : Prop := Claim7.holds Tryd.pinned (.plain (OpenSpec.upto gleanGivesSpec)) gleanGivesUptoCard
end Rows
end Go.Proofs.YtefbllhpibfojaaDoor
