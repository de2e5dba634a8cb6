/-
  DERIVED. GIVEN WITH THE SEED: THE CARDS: each row of YtdfeiajdmmlllaaDoorRows.lean that lists a variable, with what it lists TIED to the program's text (the seventh form; the later family's looks); each row that meets fmt, with fmt's text TOLD by the authors' own Lean function (tested against real Go, not proved from fmt's source: count such statements apart). THE CARD IS WHAT COUNTS. Prove the row's statement (the work); the ties are given (YtdfeiajdmmlllaaDoorTie.lean); close each card by the builder's one call (the guide's Derived/Test/ToyasCard.lean, 'card_holds'). Laid BY PROGRAM, IN A SANDBOX (cutbox-door.mjs). By AI agents, Wed Nov 11 2026. No macro, syntax, notation, axiom, sorry.
-/
import Derived.Test.YtdfeiajdmmlllaaDoorRows
import GoSem.ClaimSeven
namespace Go.Proofs.YtdfeiajdmmlllaaDoor
namespace Rows

/-- THE TIED CARD OF 'apiarylaw13.RingExact'. -/
def ringExactCard : Claim7 := { stood := { row := ringExactRow, standIns := [], harness := (true, "498ca47735778b2c361b44ef265d0ef3fc93d8f3e4128bb75b1578ce7f4c23e6"), looks := false }, kinds := [], alts := [], laidByText := true, laidKinds := [.data], laidTests := true, laidLooks := .later }
def RingExactCardSaid : Prop := Claim7.holds Tryd.pinned (.plain (OpenSpec.ofChange ringExactSpec)) ringExactCard

/-- THE TIED CARD OF 'apiarylaw13.RingStays'. -/
def ringStaysCard : Claim7 := { stood := { row := ringStaysRow, standIns := [], harness := (true, "498ca47735778b2c361b44ef265d0ef3fc93d8f3e4128bb75b1578ce7f4c23e6"), looks := false }, kinds := [], alts := [], laidByText := true, laidKinds := [.data], laidTests := true, laidLooks := .later }
def RingStaysCardSaid : Prop := Claim7.holds Tryd.pinned (.plain (OpenSpec.ofChange ringStaysSpec)) ringStaysCard

/-- THE TIED CARD OF 'apiarylaw13.RingNear'. -/
def ringNearCard : Claim7 := { stood := { row := ringNearRow, standIns := [], harness := (true, "498ca47735778b2c361b44ef265d0ef3fc93d8f3e4128bb75b1578ce7f4c23e6"), looks := false }, kinds := [], alts := [], laidByText := true, laidKinds := [.data], laidTests := true, laidLooks := .later }
def RingNearCardSaid : Prop := Claim7.holds Tryd.pinned (.plain (OpenSpec.ofChange ringNearSpec)) ringNearCard

/-- THE TIED CARD OF 'apiarylaw13.RingOwners'. -/
def ringOwnersCard : Claim7 := { stood := { row := ringOwnersRow, standIns := [], harness := (true, "498ca47735778b2c361b44ef265d0ef3fc93d8f3e4128bb75b1578ce7f4c23e6"), looks := false }, kinds := [], alts := [], laidByText := true, laidKinds := [.data], laidTests := true, laidLooks := .later }
def RingOwnersCardSaid : Prop := Claim7.holds Tryd.pinned (.plain (OpenSpec.ofChange ringOwnersSpec)) ringOwnersCard

/-- THE SECOND FORM's CARD OF 'apiarylaw13.RingExact'. -/
def ringExactUptoCard : Claim7 := { stood := { row := ringExactUptoRow, standIns := [], harness := (true, "498ca47735778b2c361b44ef265d0ef3fc93d8f3e4128bb75b1578ce7f4c23e6"), looks := false }, kinds := [], alts := [], laidByText := true, laidKinds := [.data], laidTests := true, laidLooks := .later }
def RingExactUptoCardSaid : Prop := Claim7.holds Tryd.pinned (.plain (OpenSpec.upto ringExactSpec)) ringExactUptoCard

/-- THE SECOND FORM's CARD OF 'apiarylaw13.RingStays'. -/
def ringStaysUptoCard : Claim7 := { stood := { row := ringStaysUptoRow, standIns := [], harness := (true, "498ca47735778b2c361b44ef265d0ef3fc93d8f3e4128bb75b1578ce7f4c23e6"), looks := false }, kinds := [], alts := [], laidByText := true, laidKinds := [.data], laidTests := true, laidLooks := .later }
def RingStaysUptoCardSaid : Prop := Claim7.holds Tryd.pinned (.plain (OpenSpec.upto ringStaysSpec)) ringStaysUptoCard

/-- THE SECOND FORM's CARD OF 'apiarylaw13.RingNear'. -/
def ringNearUptoCard : Claim7 := { stood := { row := ringNearUptoRow, standIns := [], harness := (true, "498ca47735778b2c361b44ef265d0ef3fc93d8f3e4128bb75b1578ce7f4c23e6"), looks := false }, kinds := [], alts := [], laidByText := true, laidKinds := [.data], laidTests := true, laidLooks := .later }
def RingNearUptoCardSaid : Prop := Claim7.holds Tryd.pinned (.plain (OpenSpec.upto ringNearSpec)) ringNearUptoCard

/-- THE SECOND FORM's CARD OF 'apiarylaw13.RingOwners'. -/
def ringOwnersUptoCard : Claim7 := { stood := { row := ringOwnersUptoRow, standIns := [], harness := (true, "498ca47735778b2c361b44ef265d0ef3fc93d8f3e4128bb75b1578ce7f4c23e6"), looks := false }, kinds := [], alts := [], laidByText := true, laidKinds := [.data], laidTests := true, laidLooks := .later }
def RingOwnersUptoCardSaid : Prop := Claim7.holds Tryd.pinned (.plain (OpenSpec.upto ringOwnersSpec)) ringOwnersUptoCard
end Rows
end Go.Proofs.YtdfeiajdmmlllaaDoor
