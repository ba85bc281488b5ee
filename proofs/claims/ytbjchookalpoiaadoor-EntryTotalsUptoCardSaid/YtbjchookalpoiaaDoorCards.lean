/-
  DERIVED. GIVEN WITH THE SEED: THE CARDS: each row of YtbjchookalpoiaaDoorRows.lean that lists a variable, with what it lists TIED to the program's text (the seventh form; the later family's looks); each row that meets fmt, with fmt's text TOLD by the authors' own Lean function (tested against real Go, not proved from fmt's source: count such statements apart). THE CARD IS WHAT COUNTS. Prove the row's statement (the work); the ties are given (YtbjchookalpoiaaDoorTie.lean); close each card by the builder's one call (the guide's Derived/Test/ToyasCard.lean, 'card_holds'). Laid BY PROGRAM, IN A SANDBOX (cutbox-door.mjs). By AI agents, Wed Nov 11 2026. No macro, syntax, notation, axiom, sorry.
-/
import Derived.Test.YtbjchookalpoiaaDoorRows
import GoSem.ClaimSeven
namespace Go.Proofs.YtbjchookalpoiaaDoor
namespace Rows

/-- THE TIED CARD OF 'downspoutlaw03.EntryMatchesReference'. -/
def entryMatchesReferenceCard : Claim7 := { stood := { row := entryMatchesReferenceRow, standIns := [], harness := (true, "a0022e0879123b2edb5fa6ee98864cb8caaa6c49f5c0217ec8d28a028afda289"), looks := false }, kinds := [], alts := [], laidByText := true, laidKinds := [.data, .pinned], laidTests := true, laidLooks := .later }
def EntryMatchesReferenceCardSaid : Prop := Claim7.holds Tryd.pinned (.plain (OpenSpec.ofChange entryMatchesReferenceSpec)) entryMatchesReferenceCard

/-- THE TIED CARD OF 'downspoutlaw03.EntryValues'. -/
def entryValuesCard : Claim7 := { stood := { row := entryValuesRow, standIns := [], harness := (true, "a0022e0879123b2edb5fa6ee98864cb8caaa6c49f5c0217ec8d28a028afda289"), looks := false }, kinds := [], alts := [], laidByText := true, laidKinds := [.data, .pinned], laidTests := true, laidLooks := .later }
def EntryValuesCardSaid : Prop := Claim7.holds Tryd.pinned (.plain (OpenSpec.ofChange entryValuesSpec)) entryValuesCard

/-- THE TIED CARD OF 'downspoutlaw03.EntryDecodes'. -/
def entryDecodesCard : Claim7 := { stood := { row := entryDecodesRow, standIns := [], harness := (true, "a0022e0879123b2edb5fa6ee98864cb8caaa6c49f5c0217ec8d28a028afda289"), looks := false }, kinds := [], alts := [], laidByText := true, laidKinds := [.data, .pinned], laidTests := true, laidLooks := .later }
def EntryDecodesCardSaid : Prop := Claim7.holds Tryd.pinned (.plain (OpenSpec.ofChange entryDecodesSpec)) entryDecodesCard

/-- THE TIED CARD OF 'downspoutlaw03.EntryCharges'. -/
def entryChargesCard : Claim7 := { stood := { row := entryChargesRow, standIns := [], harness := (true, "a0022e0879123b2edb5fa6ee98864cb8caaa6c49f5c0217ec8d28a028afda289"), looks := false }, kinds := [], alts := [], laidByText := true, laidKinds := [.data, .pinned], laidTests := true, laidLooks := .later }
def EntryChargesCardSaid : Prop := Claim7.holds Tryd.pinned (.plain (OpenSpec.ofChange entryChargesSpec)) entryChargesCard

/-- THE TIED CARD OF 'downspoutlaw03.EntryTotals'. -/
def entryTotalsCard : Claim7 := { stood := { row := entryTotalsRow, standIns := [], harness := (true, "a0022e0879123b2edb5fa6ee98864cb8caaa6c49f5c0217ec8d28a028afda289"), looks := false }, kinds := [], alts := [], laidByText := true, laidKinds := [.data, .pinned], laidTests := true, laidLooks := .later }
def EntryTotalsCardSaid : Prop := Claim7.holds Tryd.pinned (.plain (OpenSpec.ofChange entryTotalsSpec)) entryTotalsCard

/-- THE TIED CARD OF 'downspoutlaw03.EntryLimits'. -/
def entryLimitsCard : Claim7 := { stood := { row := entryLimitsRow, standIns := [], harness := (true, "a0022e0879123b2edb5fa6ee98864cb8caaa6c49f5c0217ec8d28a028afda289"), looks := false }, kinds := [], alts := [], laidByText := true, laidKinds := [.data, .pinned], laidTests := true, laidLooks := .later }
def EntryLimitsCardSaid : Prop := Claim7.holds Tryd.pinned (.plain (OpenSpec.ofChange entryLimitsSpec)) entryLimitsCard

/-- THE TIED CARD OF 'downspoutlaw03.EntryKinds'. -/
def entryKindsCard : Claim7 := { stood := { row := entryKindsRow, standIns := [], harness := (true, "a0022e0879123b2edb5fa6ee98864cb8caaa6c49f5c0217ec8d28a028afda289"), looks := false }, kinds := [], alts := [], laidByText := true, laidKinds := [.data, .pinned], laidTests := true, laidLooks := .later }
def EntryKindsCardSaid : Prop := Claim7.holds Tryd.pinned (.plain (OpenSpec.ofChange entryKindsSpec)) entryKindsCard

/-- THE SECOND FORM's CARD OF 'downspoutlaw03.EntryMatchesReference'. -/
def entryMatchesReferenceUptoCard : Claim7 := { stood := { row := entryMatchesReferenceUptoRow, standIns := [], harness := (true, "a0022e0879123b2edb5fa6ee98864cb8caaa6c49f5c0217ec8d28a028afda289"), looks := false }, kinds := [], alts := [], laidByText := true, laidKinds := [.data, .pinned], laidTests := true, laidLooks := .later }
def EntryMatchesReferenceUptoCardSaid : Prop := Claim7.holds Tryd.pinned (.plain (OpenSpec.upto entryMatchesReferenceSpec)) entryMatchesReferenceUptoCard

/-- THE SECOND FORM's CARD OF 'downspoutlaw03.EntryValues'. -/
def entryValuesUptoCard : Claim7 := { stood := { row := entryValuesUptoRow, standIns := [], harness := (true, "a0022e0879123b2edb5fa6ee98864cb8caaa6c49f5c0217ec8d28a028afda289"), looks := false }, kinds := [], alts := [], laidByText := true, laidKinds := [.data, .pinned], laidTests := true, laidLooks := .later }
def EntryValuesUptoCardSaid : Prop := Claim7.holds Tryd.pinned (.plain (OpenSpec.upto entryValuesSpec)) entryValuesUptoCard

/-- THE SECOND FORM's CARD OF 'downspoutlaw03.EntryDecodes'. -/
def entryDecodesUptoCard : Claim7 := { stood := { row := entryDecodesUptoRow, standIns := [], harness := (true, "a0022e0879123b2edb5fa6ee98864cb8caaa6c49f5c0217ec8d28a028afda289"), looks := false }, kinds := [], alts := [], laidByText := true, laidKinds := [.data, .pinned], laidTests := true, laidLooks := .later }
def EntryDecodesUptoCardSaid : Prop := Claim7.holds Tryd.pinned (.plain (OpenSpec.upto entryDecodesSpec)) entryDecodesUptoCard

/-- THE SECOND FORM's CARD OF 'downspoutlaw03.EntryCharges'. -/
def entryChargesUptoCard : Claim7 := { stood := { row := entryChargesUptoRow, standIns := [], harness := (true, "a0022e0879123b2edb5fa6ee98864cb8caaa6c49f5c0217ec8d28a028afda289"), looks := false }, kinds := [], alts := [], laidByText := true, laidKinds := [.data, .pinned], laidTests := true, laidLooks := .later }
def EntryChargesUptoCardSaid : Prop := Claim7.holds Tryd.pinned (.plain (OpenSpec.upto entryChargesSpec)) entryChargesUptoCard

/-- THE SECOND FORM's CARD OF 'downspoutlaw03.EntryTotals'. -/
def entryTotalsUptoCard : Claim7 := { stood := { row := entryTotalsUptoRow, standIns := [], harness := (true, "a0022e0879123b2edb5fa6ee98864cb8caaa6c49f5c0217ec8d28a028afda289"), looks := false }, kinds := [], alts := [], laidByText := true, laidKinds := [.data, .pinned], laidTests := true, laidLooks := .later }
def EntryTotalsUptoCardSaid : Prop := Claim7.holds Tryd.pinned (.plain (OpenSpec.upto entryTotalsSpec)) entryTotalsUptoCard

/-- THE SECOND FORM's CARD OF 'downspoutlaw03.EntryLimits'. -/
def entryLimitsUptoCard : Claim7 := { stood := { row := entryLimitsUptoRow, standIns := [], harness := (true, "a0022e0879123b2edb5fa6ee98864cb8caaa6c49f5c0217ec8d28a028afda289"), looks := false }, kinds := [], alts := [], laidByText := true, laidKinds := [.data, .pinned], laidTests := true, laidLooks := .later }
def EntryLimitsUptoCardSaid : Prop := Claim7.holds Tryd.pinned (.plain (OpenSpec.upto entryLimitsSpec)) entryLimitsUptoCard

/-- THE SECOND FORM's CARD OF 'downspoutlaw03.EntryKinds'. -/
def entryKindsUptoCard : Claim7 := { stood := { row := entryKindsUptoRow, standIns := [], harness := (true, "a0022e0879123b2edb5fa6ee98864cb8caaa6c49f5c0217ec8d28a028afda289"), looks := false }, kinds := [], alts := [], laidByText := true, laidKinds := [.data, .pinned], laidTests := true, laidLooks := .later }
def EntryKindsUptoCardSaid : Prop := Claim7.holds Tryd.pinned (.plain (OpenSpec.upto entryKindsSpec)) entryKindsUptoCard
end Rows
end Go.Proofs.YtbjchookalpoiaaDoor
