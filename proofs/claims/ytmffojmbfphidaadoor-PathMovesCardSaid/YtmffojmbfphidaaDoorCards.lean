/-
  DERIVED. GIVEN WITH THE SEED: THE CARDS: each row of YtmffojmbfphidaaDoorRows.lean that lists a variable, with what it lists TIED to the program's text (the seventh form; the later family's looks); each row that meets fmt, with fmt's text TOLD by the authors' own Lean function (tested against real Go, not proved from fmt's source: count such statements apart). THE CARD IS WHAT COUNTS. Prove the row's statement (the work); the ties are given (YtmffojmbfphidaaDoorTie.lean); close each card by the builder's one call (the guide's Derived/Test/ToyasCard.lean, 'card_holds'). Laid BY PROGRAM, IN A SANDBOX (cutbox-door.mjs). By AI agents, Wed Nov 11 2026. No macro, syntax, notation, axiom, sorry.
-/
import Derived.Test.YtmffojmbfphidaaDoorRows
import GoSem.ClaimSeven
namespace Go.Proofs.YtmffojmbfphidaaDoor
namespace Rows

/-- THE TIED CARD OF 'downspoutlaw01.PathMatchesReference'. -/
def pathMatchesReferenceCard : Claim7 := { stood := { row := pathMatchesReferenceRow, standIns := [], harness := (true, "a62e61bc3503fa51a8d79a54c12c78a62dbc52cc82be22ae707f8214e0648eb4"), looks := false }, kinds := [], alts := [], laidByText := true, laidKinds := [.data, .pinned], laidTests := true, laidLooks := .later }
def PathMatchesReferenceCardSaid : Prop := Claim7.holds Tryd.pinned (.plain (OpenSpec.ofChange pathMatchesReferenceSpec)) pathMatchesReferenceCard

/-- THE TIED CARD OF 'downspoutlaw01.PathPlaces'. -/
def pathPlacesCard : Claim7 := { stood := { row := pathPlacesRow, standIns := [], harness := (true, "a62e61bc3503fa51a8d79a54c12c78a62dbc52cc82be22ae707f8214e0648eb4"), looks := false }, kinds := [], alts := [], laidByText := true, laidKinds := [.data, .pinned], laidTests := true, laidLooks := .later }
def PathPlacesCardSaid : Prop := Claim7.holds Tryd.pinned (.plain (OpenSpec.ofChange pathPlacesSpec)) pathPlacesCard

/-- THE TIED CARD OF 'downspoutlaw01.PathTyped'. -/
def pathTypedCard : Claim7 := { stood := { row := pathTypedRow, standIns := [], harness := (true, "a62e61bc3503fa51a8d79a54c12c78a62dbc52cc82be22ae707f8214e0648eb4"), looks := false }, kinds := [], alts := [], laidByText := true, laidKinds := [.data, .pinned], laidTests := true, laidLooks := .later }
def PathTypedCardSaid : Prop := Claim7.holds Tryd.pinned (.plain (OpenSpec.ofChange pathTypedSpec)) pathTypedCard

/-- THE TIED CARD OF 'downspoutlaw01.PathJoins'. -/
def pathJoinsCard : Claim7 := { stood := { row := pathJoinsRow, standIns := [], harness := (true, "a62e61bc3503fa51a8d79a54c12c78a62dbc52cc82be22ae707f8214e0648eb4"), looks := false }, kinds := [], alts := [], laidByText := true, laidKinds := [.data, .pinned], laidTests := true, laidLooks := .later }
def PathJoinsCardSaid : Prop := Claim7.holds Tryd.pinned (.plain (OpenSpec.ofChange pathJoinsSpec)) pathJoinsCard

/-- THE TIED CARD OF 'downspoutlaw01.PathBelow'. -/
def pathBelowCard : Claim7 := { stood := { row := pathBelowRow, standIns := [], harness := (true, "a62e61bc3503fa51a8d79a54c12c78a62dbc52cc82be22ae707f8214e0648eb4"), looks := false }, kinds := [], alts := [], laidByText := true, laidKinds := [.data, .pinned], laidTests := true, laidLooks := .later }
def PathBelowCardSaid : Prop := Claim7.holds Tryd.pinned (.plain (OpenSpec.ofChange pathBelowSpec)) pathBelowCard

/-- THE TIED CARD OF 'downspoutlaw01.PathKeys'. -/
def pathKeysCard : Claim7 := { stood := { row := pathKeysRow, standIns := [], harness := (true, "a62e61bc3503fa51a8d79a54c12c78a62dbc52cc82be22ae707f8214e0648eb4"), looks := false }, kinds := [], alts := [], laidByText := true, laidKinds := [.data, .pinned], laidTests := true, laidLooks := .later }
def PathKeysCardSaid : Prop := Claim7.holds Tryd.pinned (.plain (OpenSpec.ofChange pathKeysSpec)) pathKeysCard

/-- THE TIED CARD OF 'downspoutlaw01.PathOrders'. -/
def pathOrdersCard : Claim7 := { stood := { row := pathOrdersRow, standIns := [], harness := (true, "a62e61bc3503fa51a8d79a54c12c78a62dbc52cc82be22ae707f8214e0648eb4"), looks := false }, kinds := [], alts := [], laidByText := true, laidKinds := [.data, .pinned], laidTests := true, laidLooks := .later }
def PathOrdersCardSaid : Prop := Claim7.holds Tryd.pinned (.plain (OpenSpec.ofChange pathOrdersSpec)) pathOrdersCard

/-- THE TIED CARD OF 'downspoutlaw01.PathLimits'. -/
def pathLimitsCard : Claim7 := { stood := { row := pathLimitsRow, standIns := [], harness := (true, "a62e61bc3503fa51a8d79a54c12c78a62dbc52cc82be22ae707f8214e0648eb4"), looks := false }, kinds := [], alts := [], laidByText := true, laidKinds := [.data, .pinned], laidTests := true, laidLooks := .later }
def PathLimitsCardSaid : Prop := Claim7.holds Tryd.pinned (.plain (OpenSpec.ofChange pathLimitsSpec)) pathLimitsCard

/-- THE TIED CARD OF 'downspoutlaw01.PathMoves'. -/
def pathMovesCard : Claim7 := { stood := { row := pathMovesRow, standIns := [], harness := (true, "a62e61bc3503fa51a8d79a54c12c78a62dbc52cc82be22ae707f8214e0648eb4"), looks := false }, kinds := [], alts := [], laidByText := true, laidKinds := [.data, .pinned], laidTests := true, laidLooks := .later }
def PathMovesCardSaid : Prop := Claim7.holds Tryd.pinned (.plain (OpenSpec.ofChange pathMovesSpec)) pathMovesCard

/-- THE SECOND FORM's CARD OF 'downspoutlaw01.PathMatchesReference'. -/
def pathMatchesReferenceUptoCard : Claim7 := { stood := { row := pathMatchesReferenceUptoRow, standIns := [], harness := (true, "a62e61bc3503fa51a8d79a54c12c78a62dbc52cc82be22ae707f8214e0648eb4"), looks := false }, kinds := [], alts := [], laidByText := true, laidKinds := [.data, .pinned], laidTests := true, laidLooks := .later }
def PathMatchesReferenceUptoCardSaid : Prop := Claim7.holds Tryd.pinned (.plain (OpenSpec.upto pathMatchesReferenceSpec)) pathMatchesReferenceUptoCard

/-- THE SECOND FORM's CARD OF 'downspoutlaw01.PathPlaces'. -/
def pathPlacesUptoCard : Claim7 := { stood := { row := pathPlacesUptoRow, standIns := [], harness := (true, "a62e61bc3503fa51a8d79a54c12c78a62dbc52cc82be22ae707f8214e0648eb4"), looks := false }, kinds := [], alts := [], laidByText := true, laidKinds := [.data, .pinned], laidTests := true, laidLooks := .later }
def PathPlacesUptoCardSaid : Prop := Claim7.holds Tryd.pinned (.plain (OpenSpec.upto pathPlacesSpec)) pathPlacesUptoCard

/-- THE SECOND FORM's CARD OF 'downspoutlaw01.PathTyped'. -/
def pathTypedUptoCard : Claim7 := { stood := { row := pathTypedUptoRow, standIns := [], harness := (true, "a62e61bc3503fa51a8d79a54c12c78a62dbc52cc82be22ae707f8214e0648eb4"), looks := false }, kinds := [], alts := [], laidByText := true, laidKinds := [.data, .pinned], laidTests := true, laidLooks := .later }
def PathTypedUptoCardSaid : Prop := Claim7.holds Tryd.pinned (.plain (OpenSpec.upto pathTypedSpec)) pathTypedUptoCard

/-- THE SECOND FORM's CARD OF 'downspoutlaw01.PathJoins'. -/
def pathJoinsUptoCard : Claim7 := { stood := { row := pathJoinsUptoRow, standIns := [], harness := (true, "a62e61bc3503fa51a8d79a54c12c78a62dbc52cc82be22ae707f8214e0648eb4"), looks := false }, kinds := [], alts := [], laidByText := true, laidKinds := [.data, .pinned], laidTests := true, laidLooks := .later }
def PathJoinsUptoCardSaid : Prop := Claim7.holds Tryd.pinned (.plain (OpenSpec.upto pathJoinsSpec)) pathJoinsUptoCard

/-- THE SECOND FORM's CARD OF 'downspoutlaw01.PathBelow'. -/
def pathBelowUptoCard : Claim7 := { stood := { row := pathBelowUptoRow, standIns := [], harness := (true, "a62e61bc3503fa51a8d79a54c12c78a62dbc52cc82be22ae707f8214e0648eb4"), looks := false }, kinds := [], alts := [], laidByText := true, laidKinds := [.data, .pinned], laidTests := true, laidLooks := .later }
def PathBelowUptoCardSaid : Prop := Claim7.holds Tryd.pinned (.plain (OpenSpec.upto pathBelowSpec)) pathBelowUptoCard

/-- THE SECOND FORM's CARD OF 'downspoutlaw01.PathKeys'. -/
def pathKeysUptoCard : Claim7 := { stood := { row := pathKeysUptoRow, standIns := [], harness := (true, "a62e61bc3503fa51a8d79a54c12c78a62dbc52cc82be22ae707f8214e0648eb4"), looks := false }, kinds := [], alts := [], laidByText := true, laidKinds := [.data, .pinned], laidTests := true, laidLooks := .later }
def PathKeysUptoCardSaid : Prop := Claim7.holds Tryd.pinned (.plain (OpenSpec.upto pathKeysSpec)) pathKeysUptoCard

/-- THE SECOND FORM's CARD OF 'downspoutlaw01.PathOrders'. -/
def pathOrdersUptoCard : Claim7 := { stood := { row := pathOrdersUptoRow, standIns := [], harness := (true, "a62e61bc3503fa51a8d79a54c12c78a62dbc52cc82be22ae707f8214e0648eb4"), looks := false }, kinds := [], alts := [], laidByText := true, laidKinds := [.data, .pinned], laidTests := true, laidLooks := .later }
def PathOrdersUptoCardSaid : Prop := Claim7.holds Tryd.pinned (.plain (OpenSpec.upto pathOrdersSpec)) pathOrdersUptoCard

/-- THE SECOND FORM's CARD OF 'downspoutlaw01.PathLimits'. -/
def pathLimitsUptoCard : Claim7 := { stood := { row := pathLimitsUptoRow, standIns := [], harness := (true, "a62e61bc3503fa51a8d79a54c12c78a62dbc52cc82be22ae707f8214e0648eb4"), looks := false }, kinds := [], alts := [], laidByText := true, laidKinds := [.data, .pinned], laidTests := true, laidLooks := .later }
def PathLimitsUptoCardSaid : Prop := Claim7.holds Tryd.pinned (.plain (OpenSpec.upto pathLimitsSpec)) pathLimitsUptoCard

/-- THE SECOND FORM's CARD OF 'downspoutlaw01.PathMoves'. -/
def pathMovesUptoCard : Claim7 := { stood := { row := pathMovesUptoRow, standIns := [], harness := (true, "a62e61bc3503fa51a8d79a54c12c78a62dbc52cc82be22ae707f8214e0648eb4"), looks := false }, kinds := [], alts := [], laidByText := true, laidKinds := [.data, .pinned], laidTests := true, laidLooks := .later }
def PathMovesUptoCardSaid : Prop := Claim7.holds Tryd.pinned (.plain (OpenSpec.upto pathMovesSpec)) pathMovesUptoCard
end Rows
end Go.Proofs.YtmffojmbfphidaaDoor
