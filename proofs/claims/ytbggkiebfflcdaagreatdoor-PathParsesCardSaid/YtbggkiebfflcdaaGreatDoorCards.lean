/-
  DERIVED. GIVEN WITH THE SEED: THE CARDS: each row of YtbggkiebfflcdaaGreatDoorRows.lean that lists a variable, with what it lists TIED to the program's text (the seventh form; the later family's looks); each row that meets fmt, with fmt's text TOLD by the authors' own Lean function (tested against real Go, not proved from fmt's source: count such statements apart). THE CARD IS WHAT COUNTS. Prove the row's statement (the work); the ties are given (YtbggkiebfflcdaaGreatDoorTie.lean); close each card by the builder's one call (the guide's Derived/Test/ToyasCard.lean, 'card_holds'). Laid BY PROGRAM, IN A SANDBOX (cutbox-door.mjs). By AI agents, Wed Nov 11 2026. No macro, syntax, notation, axiom, sorry.
-/
import Derived.Test.YtbggkiebfflcdaaGreatDoorRows
import GoSem.ClaimSeven
namespace Go.Proofs.YtbggkiebfflcdaaGreatDoor
namespace Rows

/-- THE TIED CARD OF 'orangerylaw16.PathParses'. -/
def pathParsesCard : Claim7 := { stood := { row := pathParsesRow, standIns := [], harness := (true, "dbca03d8c3873c311c9ad0fae462bdf5651bd93c35aa180c57778e66997f2252"), looks := true }, kinds := [], alts := [], laidByText := true, laidKinds := [.data, .data, .data, .data, .sentinel, .sentinel, .pinned], laidTests := true, laidLooks := .later }
def PathParsesCardSaid : Prop := Claim7.holds Tryz.pinned (.plain (OpenSpec.ofChange pathParsesSpec)) pathParsesCard

/-- THE TIED CARD OF 'orangerylaw16.PathBack'. -/
def pathBackCard : Claim7 := { stood := { row := pathBackRow, standIns := [], harness := (true, "dbca03d8c3873c311c9ad0fae462bdf5651bd93c35aa180c57778e66997f2252"), looks := true }, kinds := [], alts := [], laidByText := true, laidKinds := [.data, .data, .data, .data, .sentinel, .sentinel, .pinned], laidTests := true, laidLooks := .later }
def PathBackCardSaid : Prop := Claim7.holds Tryz.pinned (.plain (OpenSpec.ofChange pathBackSpec)) pathBackCard

/-- THE TIED CARD OF 'orangerylaw16.PathNames'. -/
def pathNamesCard : Claim7 := { stood := { row := pathNamesRow, standIns := [], harness := (true, "dbca03d8c3873c311c9ad0fae462bdf5651bd93c35aa180c57778e66997f2252"), looks := true }, kinds := [], alts := [], laidByText := true, laidKinds := [.data, .data, .data, .data, .sentinel, .sentinel, .pinned], laidTests := true, laidLooks := .later }
def PathNamesCardSaid : Prop := Claim7.holds Tryz.pinned (.plain (OpenSpec.ofChange pathNamesSpec)) pathNamesCard

/-- THE TIED CARD OF 'orangerylaw16.PathTyped'. -/
def pathTypedCard : Claim7 := { stood := { row := pathTypedRow, standIns := [], harness := (true, "dbca03d8c3873c311c9ad0fae462bdf5651bd93c35aa180c57778e66997f2252"), looks := true }, kinds := [], alts := [], laidByText := true, laidKinds := [.data, .data, .data, .data, .sentinel, .sentinel, .pinned], laidTests := true, laidLooks := .later }
def PathTypedCardSaid : Prop := Claim7.holds Tryz.pinned (.plain (OpenSpec.ofChange pathTypedSpec)) pathTypedCard

/-- THE TIED CARD OF 'orangerylaw16.PathSlices'. -/
def pathSlicesCard : Claim7 := { stood := { row := pathSlicesRow, standIns := [], harness := (true, "dbca03d8c3873c311c9ad0fae462bdf5651bd93c35aa180c57778e66997f2252"), looks := true }, kinds := [], alts := [], laidByText := true, laidKinds := [.data, .data, .data, .data, .sentinel, .sentinel, .pinned], laidTests := true, laidLooks := .later }
def PathSlicesCardSaid : Prop := Claim7.holds Tryz.pinned (.plain (OpenSpec.ofChange pathSlicesSpec)) pathSlicesCard

/-- THE TIED CARD OF 'orangerylaw16.PathDeep'. -/
def pathDeepCard : Claim7 := { stood := { row := pathDeepRow, standIns := [], harness := (true, "dbca03d8c3873c311c9ad0fae462bdf5651bd93c35aa180c57778e66997f2252"), looks := true }, kinds := [], alts := [], laidByText := true, laidKinds := [.data, .data, .data, .data, .sentinel, .sentinel, .pinned], laidTests := true, laidLooks := .later }
def PathDeepCardSaid : Prop := Claim7.holds Tryz.pinned (.plain (OpenSpec.ofChange pathDeepSpec)) pathDeepCard

/-- THE SECOND FORM's CARD OF 'orangerylaw16.PathParses'. -/
def pathParsesUptoCard : Claim7 := { stood := { row := pathParsesUptoRow, standIns := [], harness := (true, "dbca03d8c3873c311c9ad0fae462bdf5651bd93c35aa180c57778e66997f2252"), looks := true }, kinds := [], alts := [], laidByText := true, laidKinds := [.data, .data, .data, .data, .sentinel, .sentinel, .pinned], laidTests := true, laidLooks := .later }
def PathParsesUptoCardSaid : Prop := Claim7.holds Tryz.pinned (.plain (OpenSpec.upto pathParsesSpec)) pathParsesUptoCard

/-- THE SECOND FORM's CARD OF 'orangerylaw16.PathBack'. -/
def pathBackUptoCard : Claim7 := { stood := { row := pathBackUptoRow, standIns := [], harness := (true, "dbca03d8c3873c311c9ad0fae462bdf5651bd93c35aa180c57778e66997f2252"), looks := true }, kinds := [], alts := [], laidByText := true, laidKinds := [.data, .data, .data, .data, .sentinel, .sentinel, .pinned], laidTests := true, laidLooks := .later }
def PathBackUptoCardSaid : Prop := Claim7.holds Tryz.pinned (.plain (OpenSpec.upto pathBackSpec)) pathBackUptoCard

/-- THE SECOND FORM's CARD OF 'orangerylaw16.PathNames'. -/
def pathNamesUptoCard : Claim7 := { stood := { row := pathNamesUptoRow, standIns := [], harness := (true, "dbca03d8c3873c311c9ad0fae462bdf5651bd93c35aa180c57778e66997f2252"), looks := true }, kinds := [], alts := [], laidByText := true, laidKinds := [.data, .data, .data, .data, .sentinel, .sentinel, .pinned], laidTests := true, laidLooks := .later }
def PathNamesUptoCardSaid : Prop := Claim7.holds Tryz.pinned (.plain (OpenSpec.upto pathNamesSpec)) pathNamesUptoCard

/-- THE SECOND FORM's CARD OF 'orangerylaw16.PathTyped'. -/
def pathTypedUptoCard : Claim7 := { stood := { row := pathTypedUptoRow, standIns := [], harness := (true, "dbca03d8c3873c311c9ad0fae462bdf5651bd93c35aa180c57778e66997f2252"), looks := true }, kinds := [], alts := [], laidByText := true, laidKinds := [.data, .data, .data, .data, .sentinel, .sentinel, .pinned], laidTests := true, laidLooks := .later }
def PathTypedUptoCardSaid : Prop := Claim7.holds Tryz.pinned (.plain (OpenSpec.upto pathTypedSpec)) pathTypedUptoCard

/-- THE SECOND FORM's CARD OF 'orangerylaw16.PathSlices'. -/
def pathSlicesUptoCard : Claim7 := { stood := { row := pathSlicesUptoRow, standIns := [], harness := (true, "dbca03d8c3873c311c9ad0fae462bdf5651bd93c35aa180c57778e66997f2252"), looks := true }, kinds := [], alts := [], laidByText := true, laidKinds := [.data, .data, .data, .data, .sentinel, .sentinel, .pinned], laidTests := true, laidLooks := .later }
def PathSlicesUptoCardSaid : Prop := Claim7.holds Tryz.pinned (.plain (OpenSpec.upto pathSlicesSpec)) pathSlicesUptoCard

/-- THE SECOND FORM's CARD OF 'orangerylaw16.PathDeep'. -/
def pathDeepUptoCard : Claim7 := { stood := { row := pathDeepUptoRow, standIns := [], harness := (true, "dbca03d8c3873c311c9ad0fae462bdf5651bd93c35aa180c57778e66997f2252"), looks := true }, kinds := [], alts := [], laidByText := true, laidKinds := [.data, .data, .data, .data, .sentinel, .sentinel, .pinned], laidTests := true, laidLooks := .later }
def PathDeepUptoCardSaid : Prop := Claim7.holds Tryz.pinned (.plain (OpenSpec.upto pathDeepSpec)) pathDeepUptoCard
end Rows
end Go.Proofs.YtbggkiebfflcdaaGreatDoor
