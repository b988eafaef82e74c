/-
  DERIVED. GIVEN WITH THE SEED: THE CARDS: each row of YtebjhcjbfaaejaaGreatDoorRows.lean that lists a variable, with what it lists TIED to the program's text (the seventh form; the later family's looks); each row that meets fmt, with fmt's text TOLD by the authors' own Lean function (tested against real Go, not proved from fmt's source: count such statements apart). THE CARD IS WHAT COUNTS. Prove the row's statement (the work); the ties are given (YtebjhcjbfaaejaaGreatDoorTie.lean); close each card by the builder's one call (the guide's Derived/Test/ToyasCard.lean, 'card_holds'). Laid BY PROGRAM, IN A SANDBOX (cutbox-door.mjs). By AI agents, Wed Nov 11 2026. No macro, syntax, notation, axiom, sorry.
-/
import Derived.Test.YtebjhcjbfaaejaaGreatDoorRows
import GoSem.ClaimSeven
namespace Go.Proofs.YtebjhcjbfaaejaaGreatDoor
namespace Rows

/-- THE TIED CARD OF 'orangerylaw23.CatalogKeeps'. -/
def catalogKeepsCard : Claim7 := { stood := { row := catalogKeepsRow, standIns := [], harness := (true, "cc9bf3849ddc5e5d8828eb410803f7d98900a4d3086a6f7e2ba7dc41b37c8a2d"), looks := false }, kinds := [], alts := [], laidByText := true, laidKinds := [.data, .pinned], laidTests := true, laidLooks := .later }
def CatalogKeepsCardSaid : Prop := Claim7.holds Tryz.pinned (.plain (OpenSpec.ofChange catalogKeepsSpec)) catalogKeepsCard

/-- THE TIED CARD OF 'orangerylaw23.CatalogAgain'. -/
def catalogAgainCard : Claim7 := { stood := { row := catalogAgainRow, standIns := [], harness := (true, "cc9bf3849ddc5e5d8828eb410803f7d98900a4d3086a6f7e2ba7dc41b37c8a2d"), looks := false }, kinds := [], alts := [], laidByText := true, laidKinds := [.data, .pinned], laidTests := true, laidLooks := .later }
def CatalogAgainCardSaid : Prop := Claim7.holds Tryz.pinned (.plain (OpenSpec.ofChange catalogAgainSpec)) catalogAgainCard

/-- THE TIED CARD OF 'orangerylaw23.CatalogPlays'. -/
def catalogPlaysCard : Claim7 := { stood := { row := catalogPlaysRow, standIns := [], harness := (true, "cc9bf3849ddc5e5d8828eb410803f7d98900a4d3086a6f7e2ba7dc41b37c8a2d"), looks := false }, kinds := [], alts := [], laidByText := true, laidKinds := [.data, .pinned], laidTests := true, laidLooks := .later }
def CatalogPlaysCardSaid : Prop := Claim7.holds Tryz.pinned (.plain (OpenSpec.ofChange catalogPlaysSpec)) catalogPlaysCard

/-- THE SECOND FORM's CARD OF 'orangerylaw23.CatalogKeeps'. -/
def catalogKeepsUptoCard : Claim7 := { stood := { row := catalogKeepsUptoRow, standIns := [], harness := (true, "cc9bf3849ddc5e5d8828eb410803f7d98900a4d3086a6f7e2ba7dc41b37c8a2d"), looks := false }, kinds := [], alts := [], laidByText := true, laidKinds := [.data, .pinned], laidTests := true, laidLooks := .later }
def CatalogKeepsUptoCardSaid : Prop := Claim7.holds Tryz.pinned (.plain (OpenSpec.upto catalogKeepsSpec)) catalogKeepsUptoCard

/-- THE SECOND FORM's CARD OF 'orangerylaw23.CatalogAgain'. -/
def catalogAgainUptoCard : Claim7 := { stood := { row := catalogAgainUptoRow, standIns := [], harness := (true, "cc9bf3849ddc5e5d8828eb410803f7d98900a4d3086a6f7e2ba7dc41b37c8a2d"), looks := false }, kinds := [], alts := [], laidByText := true, laidKinds := [.data, .pinned], laidTests := true, laidLooks := .later }
def CatalogAgainUptoCardSaid : Prop := Claim7.holds Tryz.pinned (.plain (OpenSpec.upto catalogAgainSpec)) catalogAgainUptoCard

/-- THE SECOND FORM's CARD OF 'orangerylaw23.CatalogPlays'. -/
def catalogPlaysUptoCard : Claim7 := { stood := { row := catalogPlaysUptoRow, standIns := [], harness := (true, "cc9bf3849ddc5e5d8828eb410803f7d98900a4d3086a6f7e2ba7dc41b37c8a2d"), looks := false }, kinds := [], alts := [], laidByText := true, laidKinds := [.data, .pinned], laidTests := true, laidLooks := .later }
def CatalogPlaysUptoCardSaid : Prop := Claim7.holds Tryz.pinned (.plain (OpenSpec.upto catalogPlaysSpec)) catalogPlaysUptoCard
end Rows
end Go.Proofs.YtebjhcjbfaaejaaGreatDoor
