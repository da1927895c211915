/-
  DERIVED. GIVEN WITH THE SEED: THE CARDS: each row of YtgdlfjofefhdoaaGreatDoorRows.lean that lists a variable, with what it lists TIED to the program's text (the seventh form; the later family's looks); each row that meets fmt, with fmt's text TOLD by the authors' own Lean function (tested against real Go, not proved from fmt's source: count such statements apart). THE CARD IS WHAT COUNTS. Prove the row's statement (the work); the ties are given (YtgdlfjofefhdoaaGreatDoorTie.lean); close each card by the builder's one call (the guide's Derived/Test/ToyasCard.lean, 'card_holds'). Laid BY PROGRAM, IN A SANDBOX (cutbox-door.mjs). By AI agents, Wed Nov 11 2026. No macro, syntax, notation, axiom, sorry.
-/
import Derived.Test.YtgdlfjofefhdoaaGreatDoorRows
import GoSem.ClaimSeven
namespace Go.Proofs.YtgdlfjofefhdoaaGreatDoor
namespace Rows

/-- THE TIED CARD OF 'metrolablaw07.VectorDistances'. -/
def vectorDistancesCard : Claim7 := { stood := { row := vectorDistancesRow, standIns := [], harness := (true, "673dc9e69640bedebd99cf11252eb1f5fa0e36de8d1e0a22965b1b6290414214"), looks := true }, kinds := [], alts := [], laidByText := true, laidKinds := [.data, .data, .data, .data, .sentinel, .sentinel, .pinned], laidTests := true, laidLooks := .later }
def VectorDistancesCardSaid : Prop := Claim7.holds Tryz.pinned (.plain (OpenSpec.ofChange vectorDistancesSpec)) vectorDistancesCard

/-- THE TIED CARD OF 'metrolablaw07.VectorSolids'. -/
def vectorSolidsCard : Claim7 := { stood := { row := vectorSolidsRow, standIns := [], harness := (true, "673dc9e69640bedebd99cf11252eb1f5fa0e36de8d1e0a22965b1b6290414214"), looks := true }, kinds := [], alts := [], laidByText := true, laidKinds := [.data, .data, .data, .data, .sentinel, .sentinel, .pinned], laidTests := true, laidLooks := .later }
def VectorSolidsCardSaid : Prop := Claim7.holds Tryz.pinned (.plain (OpenSpec.ofChange vectorSolidsSpec)) vectorSolidsCard

/-- THE TIED CARD OF 'metrolablaw07.VectorNearer'. -/
def vectorNearerCard : Claim7 := { stood := { row := vectorNearerRow, standIns := [], harness := (true, "673dc9e69640bedebd99cf11252eb1f5fa0e36de8d1e0a22965b1b6290414214"), looks := true }, kinds := [], alts := [], laidByText := true, laidKinds := [.data, .data, .data, .data, .sentinel, .sentinel, .pinned], laidTests := true, laidLooks := .later }
def VectorNearerCardSaid : Prop := Claim7.holds Tryz.pinned (.plain (OpenSpec.ofChange vectorNearerSpec)) vectorNearerCard

/-- THE TIED CARD OF 'metrolablaw37.ProfileSides'. -/
def profileSidesCard : Claim7 := { stood := { row := profileSidesRow, standIns := [], harness := (true, "673dc9e69640bedebd99cf11252eb1f5fa0e36de8d1e0a22965b1b6290414214"), looks := true }, kinds := [], alts := [], laidByText := true, laidKinds := [.data, .data, .data, .data, .sentinel, .sentinel, .pinned], laidTests := true, laidLooks := .later }
def ProfileSidesCardSaid : Prop := Claim7.holds Tryz.pinned (.plain (OpenSpec.ofChange profileSidesSpec)) profileSidesCard

/-- THE TIED CARD OF 'metrolablaw37.ProfileNear'. -/
def profileNearCard : Claim7 := { stood := { row := profileNearRow, standIns := [], harness := (true, "673dc9e69640bedebd99cf11252eb1f5fa0e36de8d1e0a22965b1b6290414214"), looks := true }, kinds := [], alts := [], laidByText := true, laidKinds := [.data, .data, .data, .data, .sentinel, .sentinel, .pinned], laidTests := true, laidLooks := .later }
def ProfileNearCardSaid : Prop := Claim7.holds Tryz.pinned (.plain (OpenSpec.ofChange profileNearSpec)) profileNearCard

/-- THE TIED CARD OF 'metrolablaw37.ProfileUnequal'. -/
def profileUnequalCard : Claim7 := { stood := { row := profileUnequalRow, standIns := [], harness := (true, "673dc9e69640bedebd99cf11252eb1f5fa0e36de8d1e0a22965b1b6290414214"), looks := true }, kinds := [], alts := [], laidByText := true, laidKinds := [.data, .data, .data, .data, .sentinel, .sentinel, .pinned], laidTests := true, laidLooks := .later }
def ProfileUnequalCardSaid : Prop := Claim7.holds Tryz.pinned (.plain (OpenSpec.ofChange profileUnequalSpec)) profileUnequalCard

/-- THE TIED CARD OF 'metrolablaw37.ProfileSorts'. -/
def profileSortsCard : Claim7 := { stood := { row := profileSortsRow, standIns := [], harness := (true, "673dc9e69640bedebd99cf11252eb1f5fa0e36de8d1e0a22965b1b6290414214"), looks := true }, kinds := [], alts := [], laidByText := true, laidKinds := [.data, .data, .data, .data, .sentinel, .sentinel, .pinned], laidTests := true, laidLooks := .later }
def ProfileSortsCardSaid : Prop := Claim7.holds Tryz.pinned (.plain (OpenSpec.ofChange profileSortsSpec)) profileSortsCard

/-- THE TIED CARD OF 'metrolablaw37.ProfileParts'. -/
def profilePartsCard : Claim7 := { stood := { row := profilePartsRow, standIns := [], harness := (true, "673dc9e69640bedebd99cf11252eb1f5fa0e36de8d1e0a22965b1b6290414214"), looks := true }, kinds := [], alts := [], laidByText := true, laidKinds := [.data, .data, .data, .data, .sentinel, .sentinel, .pinned], laidTests := true, laidLooks := .later }
def ProfilePartsCardSaid : Prop := Claim7.holds Tryz.pinned (.plain (OpenSpec.ofChange profilePartsSpec)) profilePartsCard

/-- THE SECOND FORM's CARD OF 'metrolablaw07.VectorDistances'. -/
def vectorDistancesUptoCard : Claim7 := { stood := { row := vectorDistancesUptoRow, standIns := [], harness := (true, "673dc9e69640bedebd99cf11252eb1f5fa0e36de8d1e0a22965b1b6290414214"), looks := true }, kinds := [], alts := [], laidByText := true, laidKinds := [.data, .data, .data, .data, .sentinel, .sentinel, .pinned], laidTests := true, laidLooks := .later }
def VectorDistancesUptoCardSaid : Prop := Claim7.holds Tryz.pinned (.plain (OpenSpec.upto vectorDistancesSpec)) vectorDistancesUptoCard

/-- THE SECOND FORM's CARD OF 'metrolablaw07.VectorSolids'. -/
def vectorSolidsUptoCard : Claim7 := { stood := { row := vectorSolidsUptoRow, standIns := [], harness := (true, "673dc9e69640bedebd99cf11252eb1f5fa0e36de8d1e0a22965b1b6290414214"), looks := true }, kinds := [], alts := [], laidByText := true, laidKinds := [.data, .data, .data, .data, .sentinel, .sentinel, .pinned], laidTests := true, laidLooks := .later }
def VectorSolidsUptoCardSaid : Prop := Claim7.holds Tryz.pinned (.plain (OpenSpec.upto vectorSolidsSpec)) vectorSolidsUptoCard

/-- THE SECOND FORM's CARD OF 'metrolablaw07.VectorNearer'. -/
def vectorNearerUptoCard : Claim7 := { stood := { row := vectorNearerUptoRow, standIns := [], harness := (true, "673dc9e69640bedebd99cf11252eb1f5fa0e36de8d1e0a22965b1b6290414214"), looks := true }, kinds := [], alts := [], laidByText := true, laidKinds := [.data, .data, .data, .data, .sentinel, .sentinel, .pinned], laidTests := true, laidLooks := .later }
def VectorNearerUptoCardSaid : Prop := Claim7.holds Tryz.pinned (.plain (OpenSpec.upto vectorNearerSpec)) vectorNearerUptoCard

/-- THE SECOND FORM's CARD OF 'metrolablaw37.ProfileSides'. -/
def profileSidesUptoCard : Claim7 := { stood := { row := profileSidesUptoRow, standIns := [], harness := (true, "673dc9e69640bedebd99cf11252eb1f5fa0e36de8d1e0a22965b1b6290414214"), looks := true }, kinds := [], alts := [], laidByText := true, laidKinds := [.data, .data, .data, .data, .sentinel, .sentinel, .pinned], laidTests := true, laidLooks := .later }
def ProfileSidesUptoCardSaid : Prop := Claim7.holds Tryz.pinned (.plain (OpenSpec.upto profileSidesSpec)) profileSidesUptoCard

/-- THE SECOND FORM's CARD OF 'metrolablaw37.ProfileNear'. -/
def profileNearUptoCard : Claim7 := { stood := { row := profileNearUptoRow, standIns := [], harness := (true, "673dc9e69640bedebd99cf11252eb1f5fa0e36de8d1e0a22965b1b6290414214"), looks := true }, kinds := [], alts := [], laidByText := true, laidKinds := [.data, .data, .data, .data, .sentinel, .sentinel, .pinned], laidTests := true, laidLooks := .later }
def ProfileNearUptoCardSaid : Prop := Claim7.holds Tryz.pinned (.plain (OpenSpec.upto profileNearSpec)) profileNearUptoCard

/-- THE SECOND FORM's CARD OF 'metrolablaw37.ProfileUnequal'. -/
def profileUnequalUptoCard : Claim7 := { stood := { row := profileUnequalUptoRow, standIns := [], harness := (true, "673dc9e69640bedebd99cf11252eb1f5fa0e36de8d1e0a22965b1b6290414214"), looks := true }, kinds := [], alts := [], laidByText := true, laidKinds := [.data, .data, .data, .data, .sentinel, .sentinel, .pinned], laidTests := true, laidLooks := .later }
def ProfileUnequalUptoCardSaid : Prop := Claim7.holds Tryz.pinned (.plain (OpenSpec.upto profileUnequalSpec)) profileUnequalUptoCard

/-- THE SECOND FORM's CARD OF 'metrolablaw37.ProfileSorts'. -/
def profileSortsUptoCard : Claim7 := { stood := { row := profileSortsUptoRow, standIns := [], harness := (true, "673dc9e69640bedebd99cf11252eb1f5fa0e36de8d1e0a22965b1b6290414214"), looks := true }, kinds := [], alts := [], laidByText := true, laidKinds := [.data, .data, .data, .data, .sentinel, .sentinel, .pinned], laidTests := true, laidLooks := .later }
def ProfileSortsUptoCardSaid : Prop := Claim7.holds Tryz.pinned (.plain (OpenSpec.upto profileSortsSpec)) profileSortsUptoCard

/-- THE SECOND FORM's CARD OF 'metrolablaw37.ProfileParts'. -/
def profilePartsUptoCard : Claim7 := { stood := { row := profilePartsUptoRow, standIns := [], harness := (true, "673dc9e69640bedebd99cf11252eb1f5fa0e36de8d1e0a22965b1b6290414214"), looks := true }, kinds := [], alts := [], laidByText := true, laidKinds := [.data, .data, .data, .data, .sentinel, .sentinel, .pinned], laidTests := true, laidLooks := .later }
def ProfilePartsUptoCardSaid : Prop := Claim7.holds Tryz.pinned (.plain (OpenSpec.upto profilePartsSpec)) profilePartsUptoCard
end Rows
end Go.Proofs.YtgdlfjofefhdoaaGreatDoor
