/-
  DERIVED. GIVEN WITH THE SEED: THE CARDS: each row of YtpgikdaeicidaaaGreatDoorRows.lean that lists a variable, with what it lists TIED to the program's text (the seventh form; the later family's looks); each row that meets fmt, with fmt's text TOLD by the authors' own Lean function (tested against real Go, not proved from fmt's source: count such statements apart). THE CARD IS WHAT COUNTS. Prove the row's statement (the work); the ties are given (YtpgikdaeicidaaaGreatDoorTie.lean); close each card by the builder's one call (the guide's Derived/Test/ToyasCard.lean, 'card_holds'). Laid BY PROGRAM, IN A SANDBOX (cutbox-door.mjs). By AI agents, Wed Nov 11 2026. No macro, syntax, notation, axiom, sorry.
-/
import Derived.Test.YtpgikdaeicidaaaGreatDoorRows
import GoSem.ClaimSeven
namespace Go.Proofs.YtpgikdaeicidaaaGreatDoor
namespace Rows

/-- THE TIED CARD OF 'downspoutlaw10.NodeValid'. -/
def nodeValidCard : Claim7 := { stood := { row := nodeValidRow, standIns := [], harness := (true, "9d0d0b5c50a28c05a95358e01c7add15e43967e025348d2eaf07c5c51dab118c"), looks := false }, kinds := [], alts := [], laidByText := true, laidKinds := [.data, .pinned], laidTests := true, laidLooks := .later }
def NodeValidCardSaid : Prop := Claim7.holds Tryz.pinned (.plain (OpenSpec.ofChange nodeValidSpec)) nodeValidCard

/-- THE TIED CARD OF 'downspoutlaw10.NodeBytes'. -/
def nodeBytesCard : Claim7 := { stood := { row := nodeBytesRow, standIns := [], harness := (true, "9d0d0b5c50a28c05a95358e01c7add15e43967e025348d2eaf07c5c51dab118c"), looks := false }, kinds := [], alts := [], laidByText := true, laidKinds := [.data, .pinned], laidTests := true, laidLooks := .later }
def NodeBytesCardSaid : Prop := Claim7.holds Tryz.pinned (.plain (OpenSpec.ofChange nodeBytesSpec)) nodeBytesCard

/-- THE TIED CARD OF 'downspoutlaw10.NodeLengths'. -/
def nodeLengthsCard : Claim7 := { stood := { row := nodeLengthsRow, standIns := [], harness := (true, "9d0d0b5c50a28c05a95358e01c7add15e43967e025348d2eaf07c5c51dab118c"), looks := false }, kinds := [], alts := [], laidByText := true, laidKinds := [.data, .pinned], laidTests := true, laidLooks := .later }
def NodeLengthsCardSaid : Prop := Claim7.holds Tryz.pinned (.plain (OpenSpec.ofChange nodeLengthsSpec)) nodeLengthsCard

/-- THE TIED CARD OF 'downspoutlaw10.NodeSpans'. -/
def nodeSpansCard : Claim7 := { stood := { row := nodeSpansRow, standIns := [], harness := (true, "9d0d0b5c50a28c05a95358e01c7add15e43967e025348d2eaf07c5c51dab118c"), looks := false }, kinds := [], alts := [], laidByText := true, laidKinds := [.data, .pinned], laidTests := true, laidLooks := .later }
def NodeSpansCardSaid : Prop := Claim7.holds Tryz.pinned (.plain (OpenSpec.ofChange nodeSpansSpec)) nodeSpansCard

/-- THE TIED CARD OF 'downspoutlaw10.NodeChecks'. -/
def nodeChecksCard : Claim7 := { stood := { row := nodeChecksRow, standIns := [], harness := (true, "9d0d0b5c50a28c05a95358e01c7add15e43967e025348d2eaf07c5c51dab118c"), looks := false }, kinds := [], alts := [], laidByText := true, laidKinds := [.data, .pinned], laidTests := true, laidLooks := .later }
def NodeChecksCardSaid : Prop := Claim7.holds Tryz.pinned (.plain (OpenSpec.ofChange nodeChecksSpec)) nodeChecksCard

/-- THE TIED CARD OF 'downspoutlaw10.NodeSums'. -/
def nodeSumsCard : Claim7 := { stood := { row := nodeSumsRow, standIns := [], harness := (true, "9d0d0b5c50a28c05a95358e01c7add15e43967e025348d2eaf07c5c51dab118c"), looks := false }, kinds := [], alts := [], laidByText := true, laidKinds := [.data, .pinned], laidTests := true, laidLooks := .later }
def NodeSumsCardSaid : Prop := Claim7.holds Tryz.pinned (.plain (OpenSpec.ofChange nodeSumsSpec)) nodeSumsCard

/-- THE SECOND FORM's CARD OF 'downspoutlaw10.NodeValid'. -/
def nodeValidUptoCard : Claim7 := { stood := { row := nodeValidUptoRow, standIns := [], harness := (true, "9d0d0b5c50a28c05a95358e01c7add15e43967e025348d2eaf07c5c51dab118c"), looks := false }, kinds := [], alts := [], laidByText := true, laidKinds := [.data, .pinned], laidTests := true, laidLooks := .later }
def NodeValidUptoCardSaid : Prop := Claim7.holds Tryz.pinned (.plain (OpenSpec.upto nodeValidSpec)) nodeValidUptoCard

/-- THE SECOND FORM's CARD OF 'downspoutlaw10.NodeBytes'. -/
def nodeBytesUptoCard : Claim7 := { stood := { row := nodeBytesUptoRow, standIns := [], harness := (true, "9d0d0b5c50a28c05a95358e01c7add15e43967e025348d2eaf07c5c51dab118c"), looks := false }, kinds := [], alts := [], laidByText := true, laidKinds := [.data, .pinned], laidTests := true, laidLooks := .later }
def NodeBytesUptoCardSaid : Prop := Claim7.holds Tryz.pinned (.plain (OpenSpec.upto nodeBytesSpec)) nodeBytesUptoCard

/-- THE SECOND FORM's CARD OF 'downspoutlaw10.NodeLengths'. -/
def nodeLengthsUptoCard : Claim7 := { stood := { row := nodeLengthsUptoRow, standIns := [], harness := (true, "9d0d0b5c50a28c05a95358e01c7add15e43967e025348d2eaf07c5c51dab118c"), looks := false }, kinds := [], alts := [], laidByText := true, laidKinds := [.data, .pinned], laidTests := true, laidLooks := .later }
def NodeLengthsUptoCardSaid : Prop := Claim7.holds Tryz.pinned (.plain (OpenSpec.upto nodeLengthsSpec)) nodeLengthsUptoCard

/-- THE SECOND FORM's CARD OF 'downspoutlaw10.NodeSpans'. -/
def nodeSpansUptoCard : Claim7 := { stood := { row := nodeSpansUptoRow, standIns := [], harness := (true, "9d0d0b5c50a28c05a95358e01c7add15e43967e025348d2eaf07c5c51dab118c"), looks := false }, kinds := [], alts := [], laidByText := true, laidKinds := [.data, .pinned], laidTests := true, laidLooks := .later }
def NodeSpansUptoCardSaid : Prop := Claim7.holds Tryz.pinned (.plain (OpenSpec.upto nodeSpansSpec)) nodeSpansUptoCard

/-- THE SECOND FORM's CARD OF 'downspoutlaw10.NodeChecks'. -/
def nodeChecksUptoCard : Claim7 := { stood := { row := nodeChecksUptoRow, standIns := [], harness := (true, "9d0d0b5c50a28c05a95358e01c7add15e43967e025348d2eaf07c5c51dab118c"), looks := false }, kinds := [], alts := [], laidByText := true, laidKinds := [.data, .pinned], laidTests := true, laidLooks := .later }
def NodeChecksUptoCardSaid : Prop := Claim7.holds Tryz.pinned (.plain (OpenSpec.upto nodeChecksSpec)) nodeChecksUptoCard

/-- THE SECOND FORM's CARD OF 'downspoutlaw10.NodeSums'. -/
def nodeSumsUptoCard : Claim7 := { stood := { row := nodeSumsUptoRow, standIns := [], harness := (true, "9d0d0b5c50a28c05a95358e01c7add15e43967e025348d2eaf07c5c51dab118c"), looks := false }, kinds := [], alts := [], laidByText := true, laidKinds := [.data, .pinned], laidTests := true, laidLooks := .later }
def NodeSumsUptoCardSaid : Prop := Claim7.holds Tryz.pinned (.plain (OpenSpec.upto nodeSumsSpec)) nodeSumsUptoCard
end Rows
end Go.Proofs.YtpgikdaeicidaaaGreatDoor
