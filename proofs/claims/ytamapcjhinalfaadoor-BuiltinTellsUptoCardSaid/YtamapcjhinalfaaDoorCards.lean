/-
  DERIVED. GIVEN WITH THE SEED: THE CARDS: each row of YtamapcjhinalfaaDoorRows.lean that lists a variable, with what it lists TIED to the program's text (the seventh form; the later family's looks); each row that meets fmt, with fmt's text TOLD by the authors' own Lean function (tested against real Go, not proved from fmt's source: count such statements apart). THE CARD IS WHAT COUNTS. Prove the row's statement (the work); the ties are given (YtamapcjhinalfaaDoorTie.lean); close each card by the builder's one call (the guide's Derived/Test/ToyasCard.lean, 'card_holds'). Laid BY PROGRAM, IN A SANDBOX (cutbox-door.mjs). By AI agents, Wed Nov 11 2026. No macro, syntax, notation, axiom, sorry.
-/
import Derived.Test.YtamapcjhinalfaaDoorRows
import GoSem.ClaimSeven
namespace Go.Proofs.YtamapcjhinalfaaDoor
namespace Rows

/-- THE TIED CARD OF 'beaconrylaw02.BuiltinTells'. -/
def builtinTellsCard : Claim7 := { stood := { row := builtinTellsRow, standIns := [], harness := (true, "348224038b0d43601b89d828eec35f3758872ef150a24d769d995828015db235"), looks := false }, kinds := [], alts := [], laidByText := true, laidKinds := [.data, .data, .data], laidTests := true, laidLooks := .later }
def BuiltinTellsCardSaid : Prop := Claim7.holds Tryd.pinned (.plain (OpenSpec.ofChange builtinTellsSpec)) builtinTellsCard

/-- THE TIED CARD OF 'beaconrylaw02.BuiltinRight'. -/
def builtinRightCard : Claim7 := { stood := { row := builtinRightRow, standIns := [], harness := (true, "348224038b0d43601b89d828eec35f3758872ef150a24d769d995828015db235"), looks := false }, kinds := [], alts := [], laidByText := true, laidKinds := [.data, .data, .data], laidTests := true, laidLooks := .later }
def BuiltinRightCardSaid : Prop := Claim7.holds Tryd.pinned (.plain (OpenSpec.ofChange builtinRightSpec)) builtinRightCard

/-- THE TIED CARD OF 'beaconrylaw02.BuiltinLists'. -/
def builtinListsCard : Claim7 := { stood := { row := builtinListsRow, standIns := [], harness := (true, "348224038b0d43601b89d828eec35f3758872ef150a24d769d995828015db235"), looks := false }, kinds := [], alts := [], laidByText := true, laidKinds := [.data, .data, .data], laidTests := true, laidLooks := .later }
def BuiltinListsCardSaid : Prop := Claim7.holds Tryd.pinned (.plain (OpenSpec.ofChange builtinListsSpec)) builtinListsCard

/-- THE TIED CARD OF 'beaconrylaw02.BuiltinConcat'. -/
def builtinConcatCard : Claim7 := { stood := { row := builtinConcatRow, standIns := [], harness := (true, "348224038b0d43601b89d828eec35f3758872ef150a24d769d995828015db235"), looks := false }, kinds := [], alts := [], laidByText := true, laidKinds := [.data, .data, .data], laidTests := true, laidLooks := .later }
def BuiltinConcatCardSaid : Prop := Claim7.holds Tryd.pinned (.plain (OpenSpec.ofChange builtinConcatSpec)) builtinConcatCard

/-- THE TIED CARD OF 'beaconrylaw02.BuiltinSums'. -/
def builtinSumsCard : Claim7 := { stood := { row := builtinSumsRow, standIns := [], harness := (true, "348224038b0d43601b89d828eec35f3758872ef150a24d769d995828015db235"), looks := false }, kinds := [], alts := [], laidByText := true, laidKinds := [.data, .data, .data], laidTests := true, laidLooks := .later }
def BuiltinSumsCardSaid : Prop := Claim7.holds Tryd.pinned (.plain (OpenSpec.ofChange builtinSumsSpec)) builtinSumsCard

/-- THE TIED CARD OF 'beaconrylaw02.BuiltinTests'. -/
def builtinTestsCard : Claim7 := { stood := { row := builtinTestsRow, standIns := [], harness := (true, "348224038b0d43601b89d828eec35f3758872ef150a24d769d995828015db235"), looks := false }, kinds := [], alts := [], laidByText := true, laidKinds := [.data, .data, .data], laidTests := true, laidLooks := .later }
def BuiltinTestsCardSaid : Prop := Claim7.holds Tryd.pinned (.plain (OpenSpec.ofChange builtinTestsSpec)) builtinTestsCard

/-- THE TIED CARD OF 'beaconrylaw02.BuiltinSizes'. -/
def builtinSizesCard : Claim7 := { stood := { row := builtinSizesRow, standIns := [], harness := (true, "348224038b0d43601b89d828eec35f3758872ef150a24d769d995828015db235"), looks := false }, kinds := [], alts := [], laidByText := true, laidKinds := [.data, .data, .data], laidTests := true, laidLooks := .later }
def BuiltinSizesCardSaid : Prop := Claim7.holds Tryd.pinned (.plain (OpenSpec.ofChange builtinSizesSpec)) builtinSizesCard

/-- THE SECOND FORM's CARD OF 'beaconrylaw02.BuiltinTells'. -/
def builtinTellsUptoCard : Claim7 := { stood := { row := builtinTellsUptoRow, standIns := [], harness := (true, "348224038b0d43601b89d828eec35f3758872ef150a24d769d995828015db235"), looks := false }, kinds := [], alts := [], laidByText := true, laidKinds := [.data, .data, .data], laidTests := true, laidLooks := .later }
def BuiltinTellsUptoCardSaid : Prop := Claim7.holds Tryd.pinned (.plain (OpenSpec.upto builtinTellsSpec)) builtinTellsUptoCard

/-- THE SECOND FORM's CARD OF 'beaconrylaw02.BuiltinRight'. -/
def builtinRightUptoCard : Claim7 := { stood := { row := builtinRightUptoRow, standIns := [], harness := (true, "348224038b0d43601b89d828eec35f3758872ef150a24d769d995828015db235"), looks := false }, kinds := [], alts := [], laidByText := true, laidKinds := [.data, .data, .data], laidTests := true, laidLooks := .later }
def BuiltinRightUptoCardSaid : Prop := Claim7.holds Tryd.pinned (.plain (OpenSpec.upto builtinRightSpec)) builtinRightUptoCard

/-- THE SECOND FORM's CARD OF 'beaconrylaw02.BuiltinLists'. -/
def builtinListsUptoCard : Claim7 := { stood := { row := builtinListsUptoRow, standIns := [], harness := (true, "348224038b0d43601b89d828eec35f3758872ef150a24d769d995828015db235"), looks := false }, kinds := [], alts := [], laidByText := true, laidKinds := [.data, .data, .data], laidTests := true, laidLooks := .later }
def BuiltinListsUptoCardSaid : Prop := Claim7.holds Tryd.pinned (.plain (OpenSpec.upto builtinListsSpec)) builtinListsUptoCard

/-- THE SECOND FORM's CARD OF 'beaconrylaw02.BuiltinConcat'. -/
def builtinConcatUptoCard : Claim7 := { stood := { row := builtinConcatUptoRow, standIns := [], harness := (true, "348224038b0d43601b89d828eec35f3758872ef150a24d769d995828015db235"), looks := false }, kinds := [], alts := [], laidByText := true, laidKinds := [.data, .data, .data], laidTests := true, laidLooks := .later }
def BuiltinConcatUptoCardSaid : Prop := Claim7.holds Tryd.pinned (.plain (OpenSpec.upto builtinConcatSpec)) builtinConcatUptoCard

/-- THE SECOND FORM's CARD OF 'beaconrylaw02.BuiltinSums'. -/
def builtinSumsUptoCard : Claim7 := { stood := { row := builtinSumsUptoRow, standIns := [], harness := (true, "348224038b0d43601b89d828eec35f3758872ef150a24d769d995828015db235"), looks := false }, kinds := [], alts := [], laidByText := true, laidKinds := [.data, .data, .data], laidTests := true, laidLooks := .later }
def BuiltinSumsUptoCardSaid : Prop := Claim7.holds Tryd.pinned (.plain (OpenSpec.upto builtinSumsSpec)) builtinSumsUptoCard

/-- THE SECOND FORM's CARD OF 'beaconrylaw02.BuiltinTests'. -/
def builtinTestsUptoCard : Claim7 := { stood := { row := builtinTestsUptoRow, standIns := [], harness := (true, "348224038b0d43601b89d828eec35f3758872ef150a24d769d995828015db235"), looks := false }, kinds := [], alts := [], laidByText := true, laidKinds := [.data, .data, .data], laidTests := true, laidLooks := .later }
def BuiltinTestsUptoCardSaid : Prop := Claim7.holds Tryd.pinned (.plain (OpenSpec.upto builtinTestsSpec)) builtinTestsUptoCard

/-- THE SECOND FORM's CARD OF 'beaconrylaw02.BuiltinSizes'. -/
def builtinSizesUptoCard : Claim7 := { stood := { row := builtinSizesUptoRow, standIns := [], harness := (true, "348224038b0d43601b89d828eec35f3758872ef150a24d769d995828015db235"), looks := false }, kinds := [], alts := [], laidByText := true, laidKinds := [.data, .data, .data], laidTests := true, laidLooks := .later }
def BuiltinSizesUptoCardSaid : Prop := Claim7.holds Tryd.pinned (.plain (OpenSpec.upto builtinSizesSpec)) builtinSizesUptoCard
end Rows
end Go.Proofs.YtamapcjhinalfaaDoor
