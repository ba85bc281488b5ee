/-
  NARROWER THAN 'FOR EVERY INPUT', by the rows' own cells (each row's printed sentence says how): NodeValid: laid · NodeBytes: laid · NodeLengths: laid · NodeSpans: laid · NodeChecks: laid · NodeSums: laid.
  DERIVED. THE GIVEN ROWS OF THIS SEAT. 6 by the template 'for every input the law returns true; each argument reads behind the call as it read before'; 0 by the template 'total and deterministic' (their statements: YtpgikdaeicidaaaGreatDoorTotals.lean).
  GIVEN WITH THE SEED: the statements are not yours to turn. If you find one false, say at which input.
  Laid BY PROGRAM, IN A SANDBOX (cutbox-rows.mjs): the forced cells as the released guide's own fill.sh prints them over the translation 5f5bd03611096761… (all of the seat's roots in one cut). By AI agents, Wed Nov 11 2026. No macro, syntax, notation, axiom, sorry.
-/
import Derived.Test.YtpgikdaeicidaaaGreatDoorChecked
import GoSem.PinnedTables
import GoSem.Claim
import GoSem.ClaimJoined
import GoSem.ClaimMapViews
import Derived.JoinedTies
import Derived.KernelRfl
namespace Go.Proofs.YtpgikdaeicidaaaGreatDoor
/- THE CELL 'sum', in the pinned program and in every row, IS THE sha256 OF THE DUMP (.gsa) THAT YtpgikdaeicidaaaGreatDoorProg.lean LOADS. Nothing in Lean hashes anything: it is a label: what it is worth is what the hold of that sum in a sandbox is worth. -/
noncomputable def Tryz.pinned : Pinned := { name := "ytpgikdaeicidaaagreatdoor", sum := "5f5bd03611096761a6dbe376ae05bf8d3a311806315a4c4685b023939a3a38a3", checked := Tryz.checked }
namespace Rows
def none {H : Type} : Left H := { results := [], args := [] }

/- WHAT THE LISTED PACKAGE-LEVEL VARIABLES READ AS WHEN THE CALL BEGINS. Each datum BY PROGRAM (the guide's laid-datum.mjs) off the statement by which the dump's own 'gosem.cut.vars' lays the variable. In a bare row this is a premise. The card (YtpgikdaeicidaaaGreatDoorCards.lean) ties it to the program's text. -/
def laid_unicode_utf8_acceptRanges {H : Type} : DataW H := .agg [.agg [.lit (.int .u8 128), .lit (.int .u8 191)], .agg [.lit (.int .u8 160), .lit (.int .u8 191)], .agg [.lit (.int .u8 128), .lit (.int .u8 159)], .agg [.lit (.int .u8 144), .lit (.int .u8 191)], .agg [.lit (.int .u8 128), .lit (.int .u8 143)], .agg [.lit (.int .u8 0), .lit (.int .u8 0)], .agg [.lit (.int .u8 0), .lit (.int .u8 0)], .agg [.lit (.int .u8 0), .lit (.int .u8 0)], .agg [.lit (.int .u8 0), .lit (.int .u8 0)], .agg [.lit (.int .u8 0), .lit (.int .u8 0)], .agg [.lit (.int .u8 0), .lit (.int .u8 0)], .agg [.lit (.int .u8 0), .lit (.int .u8 0)], .agg [.lit (.int .u8 0), .lit (.int .u8 0)], .agg [.lit (.int .u8 0), .lit (.int .u8 0)], .agg [.lit (.int .u8 0), .lit (.int .u8 0)], .agg [.lit (.int .u8 0), .lit (.int .u8 0)]]
/-- One of Go's own tables, pinned by name: the form's constant. -/
def laid_unicode_utf8_first : DataW Unit := Go.Pinned.utf8First

/-- 'downspoutlaw10.NodeValid': WHATEVER THE INPUT: true; the input reads as it did. -/
def nodeValidSpec : ChangeSpec := { name := "nodeValid", fn := fun _ => fun
  | [d1, d2, d3] => { results := [.lit (.bool true)], args := [d1, d2, d3] }
  | _ => none }
def nodeValidRow : OpenClaim := { program := "ytpgikdaeicidaaagreatdoor", sum := "5f5bd03611096761a6dbe376ae05bf8d3a311806315a4c4685b023939a3a38a3", func := "downspout/downspoutlaw10.NodeValid", spec := "nodeValid", inPlace := ["internal/bytealg.IndexByteString", "internal/bytealg.IndexString"], unfollowed := true, recurses := true, named := ["internal/bytealg.MaxLen", "unicode/utf8.first", "unicode/utf8.acceptRanges"], apart := false, laid := [("unicode/utf8.acceptRanges", laid_unicode_utf8_acceptRanges), ("unicode/utf8.first", laid_unicode_utf8_first)] }
def NodeValidSaid : Prop := nodeValidRow.holds Tryz.pinned (OpenSpec.ofChange nodeValidSpec)

/-- ITS FALSE NEIGHBOUR: 'it returns false'. Refute it at one input. -/
def nodeValidWrong : ChangeSpec := { name := "nodeValid", fn := fun _ => fun
  | [d1, d2, d3] => { results := [.lit (.bool false)], args := [d1, d2, d3] }
  | _ => none }
def NodeValidWrongFalsely : Prop := nodeValidRow.holds Tryz.pinned (OpenSpec.ofChange nodeValidWrong)

/-- 'downspoutlaw10.NodeBytes': WHATEVER THE INPUT: true; the input reads as it did. -/
def nodeBytesSpec : ChangeSpec := { name := "nodeBytes", fn := fun _ => fun
  | [d1, d2, d3] => { results := [.lit (.bool true)], args := [d1, d2, d3] }
  | _ => none }
def nodeBytesRow : OpenClaim := { program := "ytpgikdaeicidaaagreatdoor", sum := "5f5bd03611096761a6dbe376ae05bf8d3a311806315a4c4685b023939a3a38a3", func := "downspout/downspoutlaw10.NodeBytes", spec := "nodeBytes", inPlace := ["internal/bytealg.IndexByteString", "internal/bytealg.IndexString"], unfollowed := true, recurses := true, named := ["internal/bytealg.MaxLen", "unicode/utf8.first", "unicode/utf8.acceptRanges"], apart := false, laid := [("unicode/utf8.acceptRanges", laid_unicode_utf8_acceptRanges), ("unicode/utf8.first", laid_unicode_utf8_first)] }
def NodeBytesSaid : Prop := nodeBytesRow.holds Tryz.pinned (OpenSpec.ofChange nodeBytesSpec)

/-- ITS FALSE NEIGHBOUR: 'it returns false'. Refute it at one input. -/
def nodeBytesWrong : ChangeSpec := { name := "nodeBytes", fn := fun _ => fun
  | [d1, d2, d3] => { results := [.lit (.bool false)], args := [d1, d2, d3] }
  | _ => none }
def NodeBytesWrongFalsely : Prop := nodeBytesRow.holds Tryz.pinned (OpenSpec.ofChange nodeBytesWrong)

/-- 'downspoutlaw10.NodeLengths': WHATEVER THE INPUT: true; the input reads as it did. -/
def nodeLengthsSpec : ChangeSpec := { name := "nodeLengths", fn := fun _ => fun
  | [d1, d2, d3] => { results := [.lit (.bool true)], args := [d1, d2, d3] }
  | _ => none }
def nodeLengthsRow : OpenClaim := { program := "ytpgikdaeicidaaagreatdoor", sum := "5f5bd03611096761a6dbe376ae05bf8d3a311806315a4c4685b023939a3a38a3", func := "downspout/downspoutlaw10.NodeLengths", spec := "nodeLengths", inPlace := ["internal/bytealg.IndexByteString", "internal/bytealg.IndexString"], unfollowed := true, recurses := true, named := ["internal/bytealg.MaxLen", "unicode/utf8.first", "unicode/utf8.acceptRanges"], apart := false, laid := [("unicode/utf8.acceptRanges", laid_unicode_utf8_acceptRanges), ("unicode/utf8.first", laid_unicode_utf8_first)] }
def NodeLengthsSaid : Prop := nodeLengthsRow.holds Tryz.pinned (OpenSpec.ofChange nodeLengthsSpec)

/-- ITS FALSE NEIGHBOUR: 'it returns false'. Refute it at one input. -/
def nodeLengthsWrong : ChangeSpec := { name := "nodeLengths", fn := fun _ => fun
  | [d1, d2, d3] => { results := [.lit (.bool false)], args := [d1, d2, d3] }
  | _ => none }
def NodeLengthsWrongFalsely : Prop := nodeLengthsRow.holds Tryz.pinned (OpenSpec.ofChange nodeLengthsWrong)

/-- 'downspoutlaw10.NodeSpans': WHATEVER THE INPUT: true; the input reads as it did. -/
def nodeSpansSpec : ChangeSpec := { name := "nodeSpans", fn := fun _ => fun
  | [d1, d2, d3] => { results := [.lit (.bool true)], args := [d1, d2, d3] }
  | _ => none }
def nodeSpansRow : OpenClaim := { program := "ytpgikdaeicidaaagreatdoor", sum := "5f5bd03611096761a6dbe376ae05bf8d3a311806315a4c4685b023939a3a38a3", func := "downspout/downspoutlaw10.NodeSpans", spec := "nodeSpans", inPlace := ["internal/bytealg.IndexByteString", "internal/bytealg.IndexString"], unfollowed := true, recurses := true, named := ["internal/bytealg.MaxLen", "unicode/utf8.first", "unicode/utf8.acceptRanges"], apart := false, laid := [("unicode/utf8.acceptRanges", laid_unicode_utf8_acceptRanges), ("unicode/utf8.first", laid_unicode_utf8_first)] }
def NodeSpansSaid : Prop := nodeSpansRow.holds Tryz.pinned (OpenSpec.ofChange nodeSpansSpec)

/-- ITS FALSE NEIGHBOUR: 'it returns false'. Refute it at one input. -/
def nodeSpansWrong : ChangeSpec := { name := "nodeSpans", fn := fun _ => fun
  | [d1, d2, d3] => { results := [.lit (.bool false)], args := [d1, d2, d3] }
  | _ => none }
def NodeSpansWrongFalsely : Prop := nodeSpansRow.holds Tryz.pinned (OpenSpec.ofChange nodeSpansWrong)

/-- 'downspoutlaw10.NodeChecks': WHATEVER THE INPUT: true; the input reads as it did. -/
def nodeChecksSpec : ChangeSpec := { name := "nodeChecks", fn := fun _ => fun
  | [d1, d2] => { results := [.lit (.bool true)], args := [d1, d2] }
  | _ => none }
def nodeChecksRow : OpenClaim := { program := "ytpgikdaeicidaaagreatdoor", sum := "5f5bd03611096761a6dbe376ae05bf8d3a311806315a4c4685b023939a3a38a3", func := "downspout/downspoutlaw10.NodeChecks", spec := "nodeChecks", inPlace := ["internal/bytealg.IndexByteString", "internal/bytealg.IndexString"], unfollowed := true, recurses := true, named := ["internal/bytealg.MaxLen", "unicode/utf8.first", "unicode/utf8.acceptRanges"], apart := false, laid := [("unicode/utf8.acceptRanges", laid_unicode_utf8_acceptRanges), ("unicode/utf8.first", laid_unicode_utf8_first)] }
def NodeChecksSaid : Prop := nodeChecksRow.holds Tryz.pinned (OpenSpec.ofChange nodeChecksSpec)

/-- ITS FALSE NEIGHBOUR: 'it returns false'. Refute it at one input. -/
def nodeChecksWrong : ChangeSpec := { name := "nodeChecks", fn := fun _ => fun
  | [d1, d2] => { results := [.lit (.bool false)], args := [d1, d2] }
  | _ => none }
def NodeChecksWrongFalsely : Prop := nodeChecksRow.holds Tryz.pinned (OpenSpec.ofChange nodeChecksWrong)

/-- 'downspoutlaw10.NodeSums': WHATEVER THE INPUT: true; the input reads as it did. -/
def nodeSumsSpec : ChangeSpec := { name := "nodeSums", fn := fun _ => fun
  | [d1, d2, d3] => { results := [.lit (.bool true)], args := [d1, d2, d3] }
  | _ => none }
def nodeSumsRow : OpenClaim := { program := "ytpgikdaeicidaaagreatdoor", sum := "5f5bd03611096761a6dbe376ae05bf8d3a311806315a4c4685b023939a3a38a3", func := "downspout/downspoutlaw10.NodeSums", spec := "nodeSums", inPlace := ["internal/bytealg.IndexByteString", "internal/bytealg.IndexString"], unfollowed := true, recurses := true, named := ["internal/bytealg.MaxLen", "unicode/utf8.first", "unicode/utf8.acceptRanges"], apart := false, laid := [("unicode/utf8.acceptRanges", laid_unicode_utf8_acceptRanges), ("unicode/utf8.first", laid_unicode_utf8_first)] }
def NodeSumsSaid : Prop := nodeSumsRow.holds Tryz.pinned (OpenSpec.ofChange nodeSumsSpec)

/-- ITS FALSE NEIGHBOUR: 'it returns false'. Refute it at one input. -/
def nodeSumsWrong : ChangeSpec := { name := "nodeSums", fn := fun _ => fun
  | [d1, d2, d3] => { results := [.lit (.bool false)], args := [d1, d2, d3] }
  | _ => none }
def NodeSumsWrongFalsely : Prop := nodeSumsRow.holds Tryz.pinned (OpenSpec.ofChange nodeSumsWrong)

/- THE SECOND FORM. 'bulk': how many values and letters a reading holds, each counted each time it is reached (what is shared counts as often as it is met; a slice's spare places count too). A statement '..UptoSaid' is the law's where the arguments, and the package variables that the reading takes, are together of bulk at most 1048576: NARROWER than '..Said'. Prove '..Said' where nothing that the law and all that it calls make is longer than what came in: it says more and counts as full. Else prove '..UptoSaid'. A law counts once. -/
mutual
def uptoBulk {H : Type} : DataW H → Nat
  | .lit (.string bytes) => bytes.length + 1
  | .lit _ => 1
  | .nil => 1
  | .ptr d => uptoBulk d + 1
  | .slice elems spare => uptoBulkAll elems + uptoBulkAll spare + 1
  | .agg parts => uptoBulkAll parts + 1
  | .iface _ d => uptoBulk d + 1
  | .map entries => uptoBulkEntries entries + 1
  | .held _ => 1
def uptoBulkAll {H : Type} : List (DataW H) → Nat
  | [] => 0
  | d :: r => uptoBulk d + uptoBulkAll r
def uptoBulkEntries {H : Type} : List (Lit × DataW H) → Nat
  | [] => 0
  | x :: r => uptoBulkEntry x + uptoBulkEntries r
def uptoBulkEntry {H : Type} : Lit × DataW H → Nat
  | (.string bytes, d) => bytes.length + uptoBulk d + 1
  | (_, d) => uptoBulk d + 1
 end
def uptoSmall : (H : Type) → List (DataW H) → Bool := fun _ ds => decide (uptoBulkAll ds ≤ 1048576)
def OpenSpec.upto (s : _root_.Go.ChangeSpec) : _root_.Go.OpenSpec := { _root_.Go.OpenSpec.ofChange s with cond := some uptoSmall }

/-- 'downspoutlaw10.NodeValid', WHERE WHAT IT READS IS OF BULK AT MOST 1048576: true; the input reads as it did. -/
def nodeValidUptoRow : OpenClaim := { program := "ytpgikdaeicidaaagreatdoor", sum := "5f5bd03611096761a6dbe376ae05bf8d3a311806315a4c4685b023939a3a38a3", func := "downspout/downspoutlaw10.NodeValid", spec := "nodeValid", inPlace := ["internal/bytealg.IndexByteString", "internal/bytealg.IndexString"], unfollowed := true, recurses := true, named := ["internal/bytealg.MaxLen", "unicode/utf8.first", "unicode/utf8.acceptRanges"], apart := false, laid := [("unicode/utf8.acceptRanges", laid_unicode_utf8_acceptRanges), ("unicode/utf8.first", laid_unicode_utf8_first)], narrowed := true }
def NodeValidUptoSaid : Prop := nodeValidUptoRow.holds Tryz.pinned (OpenSpec.upto nodeValidSpec)

/-- 'downspoutlaw10.NodeBytes', WHERE WHAT IT READS IS OF BULK AT MOST 1048576: true; the input reads as it did. -/
def nodeBytesUptoRow : OpenClaim := { program := "ytpgikdaeicidaaagreatdoor", sum := "5f5bd03611096761a6dbe376ae05bf8d3a311806315a4c4685b023939a3a38a3", func := "downspout/downspoutlaw10.NodeBytes", spec := "nodeBytes", inPlace := ["internal/bytealg.IndexByteString", "internal/bytealg.IndexString"], unfollowed := true, recurses := true, named := ["internal/bytealg.MaxLen", "unicode/utf8.first", "unicode/utf8.acceptRanges"], apart := false, laid := [("unicode/utf8.acceptRanges", laid_unicode_utf8_acceptRanges), ("unicode/utf8.first", laid_unicode_utf8_first)], narrowed := true }
def NodeBytesUptoSaid : Prop := nodeBytesUptoRow.holds Tryz.pinned (OpenSpec.upto nodeBytesSpec)

/-- 'downspoutlaw10.NodeLengths', WHERE WHAT IT READS IS OF BULK AT MOST 1048576: true; the input reads as it did. -/
def nodeLengthsUptoRow : OpenClaim := { program := "ytpgikdaeicidaaagreatdoor", sum := "5f5bd03611096761a6dbe376ae05bf8d3a311806315a4c4685b023939a3a38a3", func := "downspout/downspoutlaw10.NodeLengths", spec := "nodeLengths", inPlace := ["internal/bytealg.IndexByteString", "internal/bytealg.IndexString"], unfollowed := true, recurses := true, named := ["internal/bytealg.MaxLen", "unicode/utf8.first", "unicode/utf8.acceptRanges"], apart := false, laid := [("unicode/utf8.acceptRanges", laid_unicode_utf8_acceptRanges), ("unicode/utf8.first", laid_unicode_utf8_first)], narrowed := true }
def NodeLengthsUptoSaid : Prop := nodeLengthsUptoRow.holds Tryz.pinned (OpenSpec.upto nodeLengthsSpec)

/-- 'downspoutlaw10.NodeSpans', WHERE WHAT IT READS IS OF BULK AT MOST 1048576: true; the input reads as it did. -/
def nodeSpansUptoRow : OpenClaim := { program := "ytpgikdaeicidaaagreatdoor", sum := "5f5bd03611096761a6dbe376ae05bf8d3a311806315a4c4685b023939a3a38a3", func := "downspout/downspoutlaw10.NodeSpans", spec := "nodeSpans", inPlace := ["internal/bytealg.IndexByteString", "internal/bytealg.IndexString"], unfollowed := true, recurses := true, named := ["internal/bytealg.MaxLen", "unicode/utf8.first", "unicode/utf8.acceptRanges"], apart := false, laid := [("unicode/utf8.acceptRanges", laid_unicode_utf8_acceptRanges), ("unicode/utf8.first", laid_unicode_utf8_first)], narrowed := true }
def NodeSpansUptoSaid : Prop := nodeSpansUptoRow.holds Tryz.pinned (OpenSpec.upto nodeSpansSpec)

/-- 'downspoutlaw10.NodeChecks', WHERE WHAT IT READS IS OF BULK AT MOST 1048576: true; the input reads as it did. -/
def nodeChecksUptoRow : OpenClaim := { program := "ytpgikdaeicidaaagreatdoor", sum := "5f5bd03611096761a6dbe376ae05bf8d3a311806315a4c4685b023939a3a38a3", func := "downspout/downspoutlaw10.NodeChecks", spec := "nodeChecks", inPlace := ["internal/bytealg.IndexByteString", "internal/bytealg.IndexString"], unfollowed := true, recurses := true, named := ["internal/bytealg.MaxLen", "unicode/utf8.first", "unicode/utf8.acceptRanges"], apart := false, laid := [("unicode/utf8.acceptRanges", laid_unicode_utf8_acceptRanges), ("unicode/utf8.first", laid_unicode_utf8_first)], narrowed := true }
def NodeChecksUptoSaid : Prop := nodeChecksUptoRow.holds Tryz.pinned (OpenSpec.upto nodeChecksSpec)

/-- 'downspoutlaw10.NodeSums', WHERE WHAT IT READS IS OF BULK AT MOST 1048576: true; the input reads as it did. -/
def nodeSumsUptoRow : OpenClaim := { program := "ytpgikdaeicidaaagreatdoor", sum := "5f5bd03611096761a6dbe376ae05bf8d3a311806315a4c4685b023939a3a38a3", func := "downspout/downspoutlaw10.NodeSums", spec := "nodeSums", inPlace := ["internal/bytealg.IndexByteString", "internal/bytealg.IndexString"], unfollowed := true, recurses := true, named := ["internal/bytealg.MaxLen", "unicode/utf8.first", "unicode/utf8.acceptRanges"], apart := false, laid := [("unicode/utf8.acceptRanges", laid_unicode_utf8_acceptRanges), ("unicode/utf8.first", laid_unicode_utf8_first)], narrowed := true }
def NodeSumsUptoSaid : Prop := nodeSumsUptoRow.holds Tryz.pinned (OpenSpec.upto nodeSumsSpec)

end Rows
end Go.Proofs.YtpgikdaeicidaaaGreatDoor
