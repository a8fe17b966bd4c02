/-
  DERIVED. GIVEN WITH THE SEED: THE CARDS: each row of YtblbebnielfjoaaDoorRows.lean that lists a variable, with what it lists TIED to the program's text (the seventh form; the later family's looks); each row that meets fmt, with fmt's text TOLD by the authors' own Lean function (tested against real Go, not proved from fmt's source: count such statements apart). THE CARD IS WHAT COUNTS. Prove the row's statement (the work); the ties are given (YtblbebnielfjoaaDoorTie.lean); close each card by the builder's one call (the guide's Derived/Test/ToyasCard.lean, 'card_holds'). Laid BY PROGRAM, IN A SANDBOX (cutbox-door.mjs). By AI agents, Wed Nov 11 2026. No macro, syntax, notation, axiom, sorry.
-/
import Derived.Test.YtblbebnielfjoaaDoorRows
import GoSem.ClaimSeven
namespace Go.Proofs.YtblbebnielfjoaaDoor
namespace Rows

/-- THE TIED CARD OF 'beaconrylaw01.ValueTells'. -/
def valueTellsCard : Claim7 := { stood := { row := valueTellsRow, standIns := [], harness := (true, "545e54ca3170ea3551252a340ed05e3132619ee9d73b5a962f4a7040505c5950"), looks := false }, kinds := [], alts := [], laidByText := true, laidKinds := [.data, .data, .data], laidTests := true, laidLooks := .later }
def ValueTellsCardSaid : Prop := Claim7.holds Tryd.pinned (.plain (OpenSpec.ofChange valueTellsSpec)) valueTellsCard

/-- THE TIED CARD OF 'beaconrylaw01.ValueGoes'. -/
def valueGoesCard : Claim7 := { stood := { row := valueGoesRow, standIns := [], harness := (true, "545e54ca3170ea3551252a340ed05e3132619ee9d73b5a962f4a7040505c5950"), looks := false }, kinds := [], alts := [], laidByText := true, laidKinds := [.data, .data, .data], laidTests := true, laidLooks := .later }
def ValueGoesCardSaid : Prop := Claim7.holds Tryd.pinned (.plain (OpenSpec.ofChange valueGoesSpec)) valueGoesCard

/-- THE TIED CARD OF 'beaconrylaw01.ValueOrder'. -/
def valueOrderCard : Claim7 := { stood := { row := valueOrderRow, standIns := [], harness := (true, "545e54ca3170ea3551252a340ed05e3132619ee9d73b5a962f4a7040505c5950"), looks := false }, kinds := [], alts := [], laidByText := true, laidKinds := [.data, .data, .data], laidTests := true, laidLooks := .later }
def ValueOrderCardSaid : Prop := Claim7.holds Tryd.pinned (.plain (OpenSpec.ofChange valueOrderSpec)) valueOrderCard

/-- THE TIED CARD OF 'beaconrylaw01.ValueApart'. -/
def valueApartCard : Claim7 := { stood := { row := valueApartRow, standIns := [], harness := (true, "545e54ca3170ea3551252a340ed05e3132619ee9d73b5a962f4a7040505c5950"), looks := false }, kinds := [], alts := [], laidByText := true, laidKinds := [.data, .data, .data], laidTests := true, laidLooks := .later }
def ValueApartCardSaid : Prop := Claim7.holds Tryd.pinned (.plain (OpenSpec.ofChange valueApartSpec)) valueApartCard

/-- THE TIED CARD OF 'beaconrylaw01.ValueLists'. -/
def valueListsCard : Claim7 := { stood := { row := valueListsRow, standIns := [], harness := (true, "545e54ca3170ea3551252a340ed05e3132619ee9d73b5a962f4a7040505c5950"), looks := false }, kinds := [], alts := [], laidByText := true, laidKinds := [.data, .data, .data], laidTests := true, laidLooks := .later }
def ValueListsCardSaid : Prop := Claim7.holds Tryd.pinned (.plain (OpenSpec.ofChange valueListsSpec)) valueListsCard

/-- THE TIED CARD OF 'beaconrylaw01.ValueNames'. -/
def valueNamesCard : Claim7 := { stood := { row := valueNamesRow, standIns := [], harness := (true, "545e54ca3170ea3551252a340ed05e3132619ee9d73b5a962f4a7040505c5950"), looks := false }, kinds := [], alts := [], laidByText := true, laidKinds := [.data, .data, .data], laidTests := true, laidLooks := .later }
def ValueNamesCardSaid : Prop := Claim7.holds Tryd.pinned (.plain (OpenSpec.ofChange valueNamesSpec)) valueNamesCard

/-- THE TIED CARD OF 'beaconrylaw01.ValueDeep'. -/
def valueDeepCard : Claim7 := { stood := { row := valueDeepRow, standIns := [], harness := (true, "545e54ca3170ea3551252a340ed05e3132619ee9d73b5a962f4a7040505c5950"), looks := false }, kinds := [], alts := [], laidByText := true, laidKinds := [.data, .data, .data], laidTests := true, laidLooks := .later }
def ValueDeepCardSaid : Prop := Claim7.holds Tryd.pinned (.plain (OpenSpec.ofChange valueDeepSpec)) valueDeepCard

/-- THE SECOND FORM's CARD OF 'beaconrylaw01.ValueTells'. -/
def valueTellsUptoCard : Claim7 := { stood := { row := valueTellsUptoRow, standIns := [], harness := (true, "545e54ca3170ea3551252a340ed05e3132619ee9d73b5a962f4a7040505c5950"), looks := false }, kinds := [], alts := [], laidByText := true, laidKinds := [.data, .data, .data], laidTests := true, laidLooks := .later }
def ValueTellsUptoCardSaid : Prop := Claim7.holds Tryd.pinned (.plain (OpenSpec.upto valueTellsSpec)) valueTellsUptoCard

/-- THE SECOND FORM's CARD OF 'beaconrylaw01.ValueGoes'. -/
def valueGoesUptoCard : Claim7 := { stood := { row := valueGoesUptoRow, standIns := [], harness := (true, "545e54ca3170ea3551252a340ed05e3132619ee9d73b5a962f4a7040505c5950"), looks := false }, kinds := [], alts := [], laidByText := true, laidKinds := [.data, .data, .data], laidTests := true, laidLooks := .later }
def ValueGoesUptoCardSaid : Prop := Claim7.holds Tryd.pinned (.plain (OpenSpec.upto valueGoesSpec)) valueGoesUptoCard

/-- THE SECOND FORM's CARD OF 'beaconrylaw01.ValueOrder'. -/
def valueOrderUptoCard : Claim7 := { stood := { row := valueOrderUptoRow, standIns := [], harness := (true, "545e54ca3170ea3551252a340ed05e3132619ee9d73b5a962f4a7040505c5950"), looks := false }, kinds := [], alts := [], laidByText := true, laidKinds := [.data, .data, .data], laidTests := true, laidLooks := .later }
def ValueOrderUptoCardSaid : Prop := Claim7.holds Tryd.pinned (.plain (OpenSpec.upto valueOrderSpec)) valueOrderUptoCard

/-- THE SECOND FORM's CARD OF 'beaconrylaw01.ValueApart'. -/
def valueApartUptoCard : Claim7 := { stood := { row := valueApartUptoRow, standIns := [], harness := (true, "545e54ca3170ea3551252a340ed05e3132619ee9d73b5a962f4a7040505c5950"), looks := false }, kinds := [], alts := [], laidByText := true, laidKinds := [.data, .data, .data], laidTests := true, laidLooks := .later }
def ValueApartUptoCardSaid : Prop := Claim7.holds Tryd.pinned (.plain (OpenSpec.upto valueApartSpec)) valueApartUptoCard

/-- THE SECOND FORM's CARD OF 'beaconrylaw01.ValueLists'. -/
def valueListsUptoCard : Claim7 := { stood := { row := valueListsUptoRow, standIns := [], harness := (true, "545e54ca3170ea3551252a340ed05e3132619ee9d73b5a962f4a7040505c5950"), looks := false }, kinds := [], alts := [], laidByText := true, laidKinds := [.data, .data, .data], laidTests := true, laidLooks := .later }
def ValueListsUptoCardSaid : Prop := Claim7.holds Tryd.pinned (.plain (OpenSpec.upto valueListsSpec)) valueListsUptoCard

/-- THE SECOND FORM's CARD OF 'beaconrylaw01.ValueNames'. -/
def valueNamesUptoCard : Claim7 := { stood := { row := valueNamesUptoRow, standIns := [], harness := (true, "545e54ca3170ea3551252a340ed05e3132619ee9d73b5a962f4a7040505c5950"), looks := false }, kinds := [], alts := [], laidByText := true, laidKinds := [.data, .data, .data], laidTests := true, laidLooks := .later }
def ValueNamesUptoCardSaid : Prop := Claim7.holds Tryd.pinned (.plain (OpenSpec.upto valueNamesSpec)) valueNamesUptoCard

/-- THE SECOND FORM's CARD OF 'beaconrylaw01.ValueDeep'. -/
def valueDeepUptoCard : Claim7 := { stood := { row := valueDeepUptoRow, standIns := [], harness := (true, "545e54ca3170ea3551252a340ed05e3132619ee9d73b5a962f4a7040505c5950"), looks := false }, kinds := [], alts := [], laidByText := true, laidKinds := [.data, .data, .data], laidTests := true, laidLooks := .later }
def ValueDeepUptoCardSaid : Prop := Claim7.holds Tryd.pinned (.plain (OpenSpec.upto valueDeepSpec)) valueDeepUptoCard
end Rows
end Go.Proofs.YtblbebnielfjoaaDoor
