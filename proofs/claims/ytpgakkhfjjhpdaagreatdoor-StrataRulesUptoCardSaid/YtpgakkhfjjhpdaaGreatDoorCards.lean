/-
  DERIVED. GIVEN WITH THE SEED: THE CARDS: each row of YtpgakkhfjjhpdaaGreatDoorRows.lean that lists a variable, with what it lists TIED to the program's text (the seventh form; the later family's looks); each row that meets fmt, with fmt's text TOLD by the authors' own Lean function (tested against real Go, not proved from fmt's source: count such statements apart). THE CARD IS WHAT COUNTS. Prove the row's statement (the work); the ties are given (YtpgakkhfjjhpdaaGreatDoorTie.lean); close each card by the builder's one call (the guide's Derived/Test/ToyasCard.lean, 'card_holds'). Laid BY PROGRAM, IN A SANDBOX (cutbox-door.mjs). By AI agents, Wed Nov 11 2026. No macro, syntax, notation, axiom, sorry.
-/
import Derived.Test.YtpgakkhfjjhpdaaGreatDoorRows
import GoSem.ClaimSeven
namespace Go.Proofs.YtpgakkhfjjhpdaaGreatDoor
namespace Rows

/-- THE TIED CARD OF 'beaconrylaw08.StrataTells'. -/
def strataTellsCard : Claim7 := { stood := { row := strataTellsRow, standIns := [], harness := (true, "539c25593c724ed7170e53f1a49202a8255c322d735a9ae67932355832e3832c"), looks := false }, kinds := [], alts := [], laidByText := true, laidKinds := [.data, .data, .data], laidTests := true, laidLooks := .later }
def StrataTellsCardSaid : Prop := Claim7.holds Tryz.pinned (.plain (OpenSpec.ofChange strataTellsSpec)) strataTellsCard

/-- THE TIED CARD OF 'beaconrylaw08.StrataRules'. -/
def strataRulesCard : Claim7 := { stood := { row := strataRulesRow, standIns := [], harness := (true, "539c25593c724ed7170e53f1a49202a8255c322d735a9ae67932355832e3832c"), looks := false }, kinds := [], alts := [], laidByText := true, laidKinds := [.data, .data, .data], laidTests := true, laidLooks := .later }
def StrataRulesCardSaid : Prop := Claim7.holds Tryz.pinned (.plain (OpenSpec.ofChange strataRulesSpec)) strataRulesCard

/-- THE SECOND FORM's CARD OF 'beaconrylaw08.StrataTells'. -/
def strataTellsUptoCard : Claim7 := { stood := { row := strataTellsUptoRow, standIns := [], harness := (true, "539c25593c724ed7170e53f1a49202a8255c322d735a9ae67932355832e3832c"), looks := false }, kinds := [], alts := [], laidByText := true, laidKinds := [.data, .data, .data], laidTests := true, laidLooks := .later }
def StrataTellsUptoCardSaid : Prop := Claim7.holds Tryz.pinned (.plain (OpenSpec.upto strataTellsSpec)) strataTellsUptoCard

/-- THE SECOND FORM's CARD OF 'beaconrylaw08.StrataRules'. -/
def strataRulesUptoCard : Claim7 := { stood := { row := strataRulesUptoRow, standIns := [], harness := (true, "539c25593c724ed7170e53f1a49202a8255c322d735a9ae67932355832e3832c"), looks := false }, kinds := [], alts := [], laidByText := true, laidKinds := [.data, .data, .data], laidTests := true, laidLooks := .later }
def StrataRulesUptoCardSaid : Prop := Claim7.holds Tryz.pinned (.plain (OpenSpec.upto strataRulesSpec)) strataRulesUptoCard
end Rows
end Go.Proofs.YtpgakkhfjjhpdaaGreatDoor
