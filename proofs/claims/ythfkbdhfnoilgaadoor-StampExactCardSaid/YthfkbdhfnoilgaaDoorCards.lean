/-
  DERIVED. GIVEN WITH THE SEED: THE CARDS: each row of YthfkbdhfnoilgaaDoorRows.lean that lists a variable, with what it lists TIED to the program's text (the seventh form; the later family's looks); each row that meets fmt, with fmt's text TOLD by the authors' own Lean function (tested against real Go, not proved from fmt's source: count such statements apart). THE CARD IS WHAT COUNTS. Prove the row's statement (the work); the ties are given (YthfkbdhfnoilgaaDoorTie.lean); close each card by the builder's one call (the guide's Derived/Test/ToyasCard.lean, 'card_holds'). Laid BY PROGRAM, IN A SANDBOX (cutbox-door.mjs). By AI agents, Wed Nov 11 2026. No macro, syntax, notation, axiom, sorry.
-/
import Derived.Test.YthfkbdhfnoilgaaDoorRows
import GoSem.ClaimSeven
namespace Go.Proofs.YthfkbdhfnoilgaaDoor
namespace Rows

/-- THE TIED CARD OF 'apiarylaw02.StampExact'. -/
def stampExactCard : Claim7 := { stood := { row := stampExactRow, standIns := [], harness := (true, "8ddbbe112a3da35bd9171d866c6a1833b6a06623ad892cad1ee2aed30db79a2a"), looks := false }, kinds := [], alts := [], laidByText := true, laidKinds := [.data], laidTests := true, laidLooks := .later }
def StampExactCardSaid : Prop := Claim7.holds Tryd.pinned (.plain (OpenSpec.ofChange stampExactSpec)) stampExactCard

/-- THE TIED CARD OF 'apiarylaw02.StampOrders'. -/
def stampOrdersCard : Claim7 := { stood := { row := stampOrdersRow, standIns := [], harness := (true, "8ddbbe112a3da35bd9171d866c6a1833b6a06623ad892cad1ee2aed30db79a2a"), looks := false }, kinds := [], alts := [], laidByText := true, laidKinds := [.data], laidTests := true, laidLooks := .later }
def StampOrdersCardSaid : Prop := Claim7.holds Tryd.pinned (.plain (OpenSpec.ofChange stampOrdersSpec)) stampOrdersCard

/-- THE TIED CARD OF 'apiarylaw02.StampRows'. -/
def stampRowsCard : Claim7 := { stood := { row := stampRowsRow, standIns := [], harness := (true, "8ddbbe112a3da35bd9171d866c6a1833b6a06623ad892cad1ee2aed30db79a2a"), looks := false }, kinds := [], alts := [], laidByText := true, laidKinds := [.data], laidTests := true, laidLooks := .later }
def StampRowsCardSaid : Prop := Claim7.holds Tryd.pinned (.plain (OpenSpec.ofChange stampRowsSpec)) stampRowsCard

/-- THE TIED CARD OF 'apiarylaw02.StampSorts'. -/
def stampSortsCard : Claim7 := { stood := { row := stampSortsRow, standIns := [], harness := (true, "8ddbbe112a3da35bd9171d866c6a1833b6a06623ad892cad1ee2aed30db79a2a"), looks := false }, kinds := [], alts := [], laidByText := true, laidKinds := [.data], laidTests := true, laidLooks := .later }
def StampSortsCardSaid : Prop := Claim7.holds Tryd.pinned (.plain (OpenSpec.ofChange stampSortsSpec)) stampSortsCard

/-- THE TIED CARD OF 'apiarylaw02.StampParts'. -/
def stampPartsCard : Claim7 := { stood := { row := stampPartsRow, standIns := [], harness := (true, "8ddbbe112a3da35bd9171d866c6a1833b6a06623ad892cad1ee2aed30db79a2a"), looks := false }, kinds := [], alts := [], laidByText := true, laidKinds := [.data], laidTests := true, laidLooks := .later }
def StampPartsCardSaid : Prop := Claim7.holds Tryd.pinned (.plain (OpenSpec.ofChange stampPartsSpec)) stampPartsCard

/-- THE TIED CARD OF 'apiarylaw02.StampBlocks'. -/
def stampBlocksCard : Claim7 := { stood := { row := stampBlocksRow, standIns := [], harness := (true, "8ddbbe112a3da35bd9171d866c6a1833b6a06623ad892cad1ee2aed30db79a2a"), looks := false }, kinds := [], alts := [], laidByText := true, laidKinds := [.data], laidTests := true, laidLooks := .later }
def StampBlocksCardSaid : Prop := Claim7.holds Tryd.pinned (.plain (OpenSpec.ofChange stampBlocksSpec)) stampBlocksCard

/-- THE SECOND FORM's CARD OF 'apiarylaw02.StampExact'. -/
def stampExactUptoCard : Claim7 := { stood := { row := stampExactUptoRow, standIns := [], harness := (true, "8ddbbe112a3da35bd9171d866c6a1833b6a06623ad892cad1ee2aed30db79a2a"), looks := false }, kinds := [], alts := [], laidByText := true, laidKinds := [.data], laidTests := true, laidLooks := .later }
def StampExactUptoCardSaid : Prop := Claim7.holds Tryd.pinned (.plain (OpenSpec.upto stampExactSpec)) stampExactUptoCard

/-- THE SECOND FORM's CARD OF 'apiarylaw02.StampOrders'. -/
def stampOrdersUptoCard : Claim7 := { stood := { row := stampOrdersUptoRow, standIns := [], harness := (true, "8ddbbe112a3da35bd9171d866c6a1833b6a06623ad892cad1ee2aed30db79a2a"), looks := false }, kinds := [], alts := [], laidByText := true, laidKinds := [.data], laidTests := true, laidLooks := .later }
def StampOrdersUptoCardSaid : Prop := Claim7.holds Tryd.pinned (.plain (OpenSpec.upto stampOrdersSpec)) stampOrdersUptoCard

/-- THE SECOND FORM's CARD OF 'apiarylaw02.StampRows'. -/
def stampRowsUptoCard : Claim7 := { stood := { row := stampRowsUptoRow, standIns := [], harness := (true, "8ddbbe112a3da35bd9171d866c6a1833b6a06623ad892cad1ee2aed30db79a2a"), looks := false }, kinds := [], alts := [], laidByText := true, laidKinds := [.data], laidTests := true, laidLooks := .later }
def StampRowsUptoCardSaid : Prop := Claim7.holds Tryd.pinned (.plain (OpenSpec.upto stampRowsSpec)) stampRowsUptoCard

/-- THE SECOND FORM's CARD OF 'apiarylaw02.StampSorts'. -/
def stampSortsUptoCard : Claim7 := { stood := { row := stampSortsUptoRow, standIns := [], harness := (true, "8ddbbe112a3da35bd9171d866c6a1833b6a06623ad892cad1ee2aed30db79a2a"), looks := false }, kinds := [], alts := [], laidByText := true, laidKinds := [.data], laidTests := true, laidLooks := .later }
def StampSortsUptoCardSaid : Prop := Claim7.holds Tryd.pinned (.plain (OpenSpec.upto stampSortsSpec)) stampSortsUptoCard

/-- THE SECOND FORM's CARD OF 'apiarylaw02.StampParts'. -/
def stampPartsUptoCard : Claim7 := { stood := { row := stampPartsUptoRow, standIns := [], harness := (true, "8ddbbe112a3da35bd9171d866c6a1833b6a06623ad892cad1ee2aed30db79a2a"), looks := false }, kinds := [], alts := [], laidByText := true, laidKinds := [.data], laidTests := true, laidLooks := .later }
def StampPartsUptoCardSaid : Prop := Claim7.holds Tryd.pinned (.plain (OpenSpec.upto stampPartsSpec)) stampPartsUptoCard

/-- THE SECOND FORM's CARD OF 'apiarylaw02.StampBlocks'. -/
def stampBlocksUptoCard : Claim7 := { stood := { row := stampBlocksUptoRow, standIns := [], harness := (true, "8ddbbe112a3da35bd9171d866c6a1833b6a06623ad892cad1ee2aed30db79a2a"), looks := false }, kinds := [], alts := [], laidByText := true, laidKinds := [.data], laidTests := true, laidLooks := .later }
def StampBlocksUptoCardSaid : Prop := Claim7.holds Tryd.pinned (.plain (OpenSpec.upto stampBlocksSpec)) stampBlocksUptoCard
end Rows
end Go.Proofs.YthfkbdhfnoilgaaDoor
