/-
  DERIVED. GIVEN WITH THE SEED: THE CARDS: each row of YtjfgjnlocadpbaaGreatDoorRows.lean that lists a variable, with what it lists TIED to the program's text (the seventh form; the later family's looks); each row that meets fmt, with fmt's text TOLD by the authors' own Lean function (tested against real Go, not proved from fmt's source: count such statements apart). THE CARD IS WHAT COUNTS. Prove the row's statement (the work); the ties are given (YtjfgjnlocadpbaaGreatDoorTie.lean); close each card by the builder's one call (the guide's Derived/Test/ToyasCard.lean, 'card_holds'). Laid BY PROGRAM, IN A SANDBOX (cutbox-door.mjs). By AI agents, Wed Nov 11 2026. No macro, syntax, notation, axiom, sorry.
-/
import Derived.Test.YtjfgjnlocadpbaaGreatDoorRows
import GoSem.ClaimSeven
namespace Go.Proofs.YtjfgjnlocadpbaaGreatDoor
namespace Rows

/-- THE TIED CARD OF 'beaconrylaw07.LocateReads'. -/
def locateReadsCard : Claim7 := { stood := { row := locateReadsRow, standIns := [], harness := (true, "a0e6a7aee1cabfd31f4fe6517e8c09ad6073ed12432a0af45d81b744fbc056b8"), looks := false }, kinds := [], alts := [], laidByText := true, laidKinds := [.data, .data, .data], laidTests := true, laidLooks := .later }
def LocateReadsCardSaid : Prop := Claim7.holds Tryz.pinned (.plain (OpenSpec.ofChange locateReadsSpec)) locateReadsCard

/-- THE TIED CARD OF 'beaconrylaw07.LocateMore'. -/
def locateMoreCard : Claim7 := { stood := { row := locateMoreRow, standIns := [], harness := (true, "a0e6a7aee1cabfd31f4fe6517e8c09ad6073ed12432a0af45d81b744fbc056b8"), looks := false }, kinds := [], alts := [], laidByText := true, laidKinds := [.data, .data, .data], laidTests := true, laidLooks := .later }
def LocateMoreCardSaid : Prop := Claim7.holds Tryz.pinned (.plain (OpenSpec.ofChange locateMoreSpec)) locateMoreCard

/-- THE TIED CARD OF 'beaconrylaw07.LocateNames'. -/
def locateNamesCard : Claim7 := { stood := { row := locateNamesRow, standIns := [], harness := (true, "a0e6a7aee1cabfd31f4fe6517e8c09ad6073ed12432a0af45d81b744fbc056b8"), looks := false }, kinds := [], alts := [], laidByText := true, laidKinds := [.data, .data, .data], laidTests := true, laidLooks := .later }
def LocateNamesCardSaid : Prop := Claim7.holds Tryz.pinned (.plain (OpenSpec.ofChange locateNamesSpec)) locateNamesCard

/-- THE TIED CARD OF 'beaconrylaw07.LocateTells'. -/
def locateTellsCard : Claim7 := { stood := { row := locateTellsRow, standIns := [], harness := (true, "a0e6a7aee1cabfd31f4fe6517e8c09ad6073ed12432a0af45d81b744fbc056b8"), looks := false }, kinds := [], alts := [], laidByText := true, laidKinds := [.data, .data, .data], laidTests := true, laidLooks := .later }
def LocateTellsCardSaid : Prop := Claim7.holds Tryz.pinned (.plain (OpenSpec.ofChange locateTellsSpec)) locateTellsCard

/-- THE TIED CARD OF 'beaconrylaw07.LocateChecks'. -/
def locateChecksCard : Claim7 := { stood := { row := locateChecksRow, standIns := [], harness := (true, "a0e6a7aee1cabfd31f4fe6517e8c09ad6073ed12432a0af45d81b744fbc056b8"), looks := false }, kinds := [], alts := [], laidByText := true, laidKinds := [.data, .data, .data], laidTests := true, laidLooks := .later }
def LocateChecksCardSaid : Prop := Claim7.holds Tryz.pinned (.plain (OpenSpec.ofChange locateChecksSpec)) locateChecksCard

/-- THE SECOND FORM's CARD OF 'beaconrylaw07.LocateReads'. -/
def locateReadsUptoCard : Claim7 := { stood := { row := locateReadsUptoRow, standIns := [], harness := (true, "a0e6a7aee1cabfd31f4fe6517e8c09ad6073ed12432a0af45d81b744fbc056b8"), looks := false }, kinds := [], alts := [], laidByText := true, laidKinds := [.data, .data, .data], laidTests := true, laidLooks := .later }
def LocateReadsUptoCardSaid : Prop := Claim7.holds Tryz.pinned (.plain (OpenSpec.upto locateReadsSpec)) locateReadsUptoCard

/-- THE SECOND FORM's CARD OF 'beaconrylaw07.LocateMore'. -/
def locateMoreUptoCard : Claim7 := { stood := { row := locateMoreUptoRow, standIns := [], harness := (true, "a0e6a7aee1cabfd31f4fe6517e8c09ad6073ed12432a0af45d81b744fbc056b8"), looks := false }, kinds := [], alts := [], laidByText := true, laidKinds := [.data, .data, .data], laidTests := true, laidLooks := .later }
def LocateMoreUptoCardSaid : Prop := Claim7.holds Tryz.pinned (.plain (OpenSpec.upto locateMoreSpec)) locateMoreUptoCard

/-- THE SECOND FORM's CARD OF 'beaconrylaw07.LocateNames'. -/
def locateNamesUptoCard : Claim7 := { stood := { row := locateNamesUptoRow, standIns := [], harness := (true, "a0e6a7aee1cabfd31f4fe6517e8c09ad6073ed12432a0af45d81b744fbc056b8"), looks := false }, kinds := [], alts := [], laidByText := true, laidKinds := [.data, .data, .data], laidTests := true, laidLooks := .later }
def LocateNamesUptoCardSaid : Prop := Claim7.holds Tryz.pinned (.plain (OpenSpec.upto locateNamesSpec)) locateNamesUptoCard

/-- THE SECOND FORM's CARD OF 'beaconrylaw07.LocateTells'. -/
def locateTellsUptoCard : Claim7 := { stood := { row := locateTellsUptoRow, standIns := [], harness := (true, "a0e6a7aee1cabfd31f4fe6517e8c09ad6073ed12432a0af45d81b744fbc056b8"), looks := false }, kinds := [], alts := [], laidByText := true, laidKinds := [.data, .data, .data], laidTests := true, laidLooks := .later }
def LocateTellsUptoCardSaid : Prop := Claim7.holds Tryz.pinned (.plain (OpenSpec.upto locateTellsSpec)) locateTellsUptoCard

/-- THE SECOND FORM's CARD OF 'beaconrylaw07.LocateChecks'. -/
def locateChecksUptoCard : Claim7 := { stood := { row := locateChecksUptoRow, standIns := [], harness := (true, "a0e6a7aee1cabfd31f4fe6517e8c09ad6073ed12432a0af45d81b744fbc056b8"), looks := false }, kinds := [], alts := [], laidByText := true, laidKinds := [.data, .data, .data], laidTests := true, laidLooks := .later }
def LocateChecksUptoCardSaid : Prop := Claim7.holds Tryz.pinned (.plain (OpenSpec.upto locateChecksSpec)) locateChecksUptoCard
end Rows
end Go.Proofs.YtjfgjnlocadpbaaGreatDoor
