/-
  NARROWER THAN 'FOR EVERY INPUT', by the rows' own cells (each row's printed sentence says how): EntryMatchesReference: laid · EntryValues: laid · EntryDecodes: laid · EntryCharges: laid · EntryTotals: laid · EntryLimits: laid · EntryKinds: laid.
  DERIVED. THE GIVEN ROWS OF THIS SEAT. 7 by the template 'for every input the law returns true; each argument reads behind the call as it read before'; 0 by the template 'total and deterministic' (their statements: YtbjchookalpoiaaDoorTotals.lean).
  GIVEN WITH THE SEED: the statements are not yours to turn. If you find one false, say at which input.
  Laid BY PROGRAM, IN A SANDBOX (cutbox-rows.mjs): the forced cells as the released guide's own fill.sh prints them over the translation a4606fcb8d6af920… (all of the seat's roots in one cut). By AI agents, Wed Nov 11 2026. No macro, syntax, notation, axiom, sorry.
-/
import Derived.Test.YtbjchookalpoiaaDoorChecked
import GoSem.PinnedTables
import GoSem.Claim
import GoSem.ClaimJoined
import GoSem.ClaimMapViews
import Derived.JoinedTies
import Derived.KernelRfl
namespace Go.Proofs.YtbjchookalpoiaaDoor
/- THE CELL 'sum', in the pinned program and in every row, IS THE sha256 OF THE DUMP (.gsa) THAT YtbjchookalpoiaaDoorProg.lean LOADS. Nothing in Lean hashes anything: it is a label: what it is worth is what the hold of that sum in a sandbox is worth. -/
noncomputable def Tryd.pinned : Pinned := { name := "ytbjchookalpoiaadoor", sum := "a4606fcb8d6af920ea123e76d6a4900c634283ee11816e80891d5e7b5d3dca3a", checked := Tryd.checked }
namespace Rows
def none {H : Type} : Left H := { results := [], args := [] }

/- WHAT THE LISTED PACKAGE-LEVEL VARIABLES READ AS WHEN THE CALL BEGINS. Each datum BY PROGRAM (the guide's laid-datum.mjs) off the statement by which the dump's own 'gosem.cut.vars' lays the variable. In a bare row this is a premise. The card (YtbjchookalpoiaaDoorCards.lean) ties it to the program's text. -/
def laid_unicode_utf8_acceptRanges {H : Type} : DataW H := .agg [.agg [.lit (.int .u8 128), .lit (.int .u8 191)], .agg [.lit (.int .u8 160), .lit (.int .u8 191)], .agg [.lit (.int .u8 128), .lit (.int .u8 159)], .agg [.lit (.int .u8 144), .lit (.int .u8 191)], .agg [.lit (.int .u8 128), .lit (.int .u8 143)], .agg [.lit (.int .u8 0), .lit (.int .u8 0)], .agg [.lit (.int .u8 0), .lit (.int .u8 0)], .agg [.lit (.int .u8 0), .lit (.int .u8 0)], .agg [.lit (.int .u8 0), .lit (.int .u8 0)], .agg [.lit (.int .u8 0), .lit (.int .u8 0)], .agg [.lit (.int .u8 0), .lit (.int .u8 0)], .agg [.lit (.int .u8 0), .lit (.int .u8 0)], .agg [.lit (.int .u8 0), .lit (.int .u8 0)], .agg [.lit (.int .u8 0), .lit (.int .u8 0)], .agg [.lit (.int .u8 0), .lit (.int .u8 0)], .agg [.lit (.int .u8 0), .lit (.int .u8 0)]]
/-- One of Go's own tables, pinned by name: the form's constant. -/
def laid_unicode_utf8_first : DataW Unit := Go.Pinned.utf8First

/-- 'downspoutlaw03.EntryMatchesReference': WHATEVER THE INPUT: true; the input reads as it did. -/
def entryMatchesReferenceSpec : ChangeSpec := { name := "entryMatchesReference", fn := fun _ => fun
  | [d1, d2, d3] => { results := [.lit (.bool true)], args := [d1, d2, d3] }
  | _ => none }
def entryMatchesReferenceRow : OpenClaim := { program := "ytbjchookalpoiaadoor", sum := "a4606fcb8d6af920ea123e76d6a4900c634283ee11816e80891d5e7b5d3dca3a", func := "downspout/downspoutlaw03.EntryMatchesReference", spec := "entryMatchesReference", inPlace := ["internal/bytealg.IndexByteString", "internal/bytealg.IndexString"], unfollowed := true, recurses := true, named := ["internal/bytealg.MaxLen", "unicode/utf8.first", "unicode/utf8.acceptRanges"], apart := false, laid := [("unicode/utf8.acceptRanges", laid_unicode_utf8_acceptRanges), ("unicode/utf8.first", laid_unicode_utf8_first)] }
def EntryMatchesReferenceSaid : Prop := entryMatchesReferenceRow.holds Tryd.pinned (OpenSpec.ofChange entryMatchesReferenceSpec)

/-- ITS FALSE NEIGHBOUR: 'it returns false'. Refute it at one input. -/
def entryMatchesReferenceWrong : ChangeSpec := { name := "entryMatchesReference", fn := fun _ => fun
  | [d1, d2, d3] => { results := [.lit (.bool false)], args := [d1, d2, d3] }
  | _ => none }
def EntryMatchesReferenceWrongFalsely : Prop := entryMatchesReferenceRow.holds Tryd.pinned (OpenSpec.ofChange entryMatchesReferenceWrong)

/-- 'downspoutlaw03.EntryValues': WHATEVER THE INPUT: true; the input reads as it did. -/
def entryValuesSpec : ChangeSpec := { name := "entryValues", fn := fun _ => fun
  | [d1, d2, d3] => { results := [.lit (.bool true)], args := [d1, d2, d3] }
  | _ => none }
def entryValuesRow : OpenClaim := { program := "ytbjchookalpoiaadoor", sum := "a4606fcb8d6af920ea123e76d6a4900c634283ee11816e80891d5e7b5d3dca3a", func := "downspout/downspoutlaw03.EntryValues", spec := "entryValues", inPlace := ["internal/bytealg.IndexByteString", "internal/bytealg.IndexString"], unfollowed := true, recurses := true, named := ["internal/bytealg.MaxLen", "unicode/utf8.first", "unicode/utf8.acceptRanges"], apart := false, laid := [("unicode/utf8.acceptRanges", laid_unicode_utf8_acceptRanges), ("unicode/utf8.first", laid_unicode_utf8_first)] }
def EntryValuesSaid : Prop := entryValuesRow.holds Tryd.pinned (OpenSpec.ofChange entryValuesSpec)

/-- ITS FALSE NEIGHBOUR: 'it returns false'. Refute it at one input. -/
def entryValuesWrong : ChangeSpec := { name := "entryValues", fn := fun _ => fun
  | [d1, d2, d3] => { results := [.lit (.bool false)], args := [d1, d2, d3] }
  | _ => none }
def EntryValuesWrongFalsely : Prop := entryValuesRow.holds Tryd.pinned (OpenSpec.ofChange entryValuesWrong)

/-- 'downspoutlaw03.EntryDecodes': WHATEVER THE INPUT: true; the input reads as it did. -/
def entryDecodesSpec : ChangeSpec := { name := "entryDecodes", fn := fun _ => fun
  | [d1, d2] => { results := [.lit (.bool true)], args := [d1, d2] }
  | _ => none }
def entryDecodesRow : OpenClaim := { program := "ytbjchookalpoiaadoor", sum := "a4606fcb8d6af920ea123e76d6a4900c634283ee11816e80891d5e7b5d3dca3a", func := "downspout/downspoutlaw03.EntryDecodes", spec := "entryDecodes", inPlace := ["internal/bytealg.IndexByteString", "internal/bytealg.IndexString"], unfollowed := true, recurses := true, named := ["internal/bytealg.MaxLen", "unicode/utf8.first", "unicode/utf8.acceptRanges"], apart := false, laid := [("unicode/utf8.acceptRanges", laid_unicode_utf8_acceptRanges), ("unicode/utf8.first", laid_unicode_utf8_first)] }
def EntryDecodesSaid : Prop := entryDecodesRow.holds Tryd.pinned (OpenSpec.ofChange entryDecodesSpec)

/-- ITS FALSE NEIGHBOUR: 'it returns false'. Refute it at one input. -/
def entryDecodesWrong : ChangeSpec := { name := "entryDecodes", fn := fun _ => fun
  | [d1, d2] => { results := [.lit (.bool false)], args := [d1, d2] }
  | _ => none }
def EntryDecodesWrongFalsely : Prop := entryDecodesRow.holds Tryd.pinned (OpenSpec.ofChange entryDecodesWrong)

/-- 'downspoutlaw03.EntryCharges': WHATEVER THE INPUT: true; the input reads as it did. -/
def entryChargesSpec : ChangeSpec := { name := "entryCharges", fn := fun _ => fun
  | [d1, d2, d3] => { results := [.lit (.bool true)], args := [d1, d2, d3] }
  | _ => none }
def entryChargesRow : OpenClaim := { program := "ytbjchookalpoiaadoor", sum := "a4606fcb8d6af920ea123e76d6a4900c634283ee11816e80891d5e7b5d3dca3a", func := "downspout/downspoutlaw03.EntryCharges", spec := "entryCharges", inPlace := ["internal/bytealg.IndexByteString", "internal/bytealg.IndexString"], unfollowed := true, recurses := true, named := ["internal/bytealg.MaxLen", "unicode/utf8.first", "unicode/utf8.acceptRanges"], apart := false, laid := [("unicode/utf8.acceptRanges", laid_unicode_utf8_acceptRanges), ("unicode/utf8.first", laid_unicode_utf8_first)] }
def EntryChargesSaid : Prop := entryChargesRow.holds Tryd.pinned (OpenSpec.ofChange entryChargesSpec)

/-- ITS FALSE NEIGHBOUR: 'it returns false'. Refute it at one input. -/
def entryChargesWrong : ChangeSpec := { name := "entryCharges", fn := fun _ => fun
  | [d1, d2, d3] => { results := [.lit (.bool false)], args := [d1, d2, d3] }
  | _ => none }
def EntryChargesWrongFalsely : Prop := entryChargesRow.holds Tryd.pinned (OpenSpec.ofChange entryChargesWrong)

/-- 'downspoutlaw03.EntryTotals': WHATEVER THE INPUT: true; the input reads as it did. -/
def entryTotalsSpec : ChangeSpec := { name := "entryTotals", fn := fun _ => fun
  | [d1, d2] => { results := [.lit (.bool true)], args := [d1, d2] }
  | _ => none }
def entryTotalsRow : OpenClaim := { program := "ytbjchookalpoiaadoor", sum := "a4606fcb8d6af920ea123e76d6a4900c634283ee11816e80891d5e7b5d3dca3a", func := "downspout/downspoutlaw03.EntryTotals", spec := "entryTotals", inPlace := ["internal/bytealg.IndexByteString", "internal/bytealg.IndexString"], unfollowed := true, recurses := true, named := ["internal/bytealg.MaxLen", "unicode/utf8.first", "unicode/utf8.acceptRanges"], apart := false, laid := [("unicode/utf8.acceptRanges", laid_unicode_utf8_acceptRanges), ("unicode/utf8.first", laid_unicode_utf8_first)] }
def EntryTotalsSaid : Prop := entryTotalsRow.holds Tryd.pinned (OpenSpec.ofChange entryTotalsSpec)

/-- ITS FALSE NEIGHBOUR: 'it returns false'. Refute it at one input. -/
def entryTotalsWrong : ChangeSpec := { name := "entryTotals", fn := fun _ => fun
  | [d1, d2] => { results := [.lit (.bool false)], args := [d1, d2] }
  | _ => none }
def EntryTotalsWrongFalsely : Prop := entryTotalsRow.holds Tryd.pinned (OpenSpec.ofChange entryTotalsWrong)

/-- 'downspoutlaw03.EntryLimits': WHATEVER THE INPUT: true; the input reads as it did. -/
def entryLimitsSpec : ChangeSpec := { name := "entryLimits", fn := fun _ => fun
  | [d1, d2, d3] => { results := [.lit (.bool true)], args := [d1, d2, d3] }
  | _ => none }
def entryLimitsRow : OpenClaim := { program := "ytbjchookalpoiaadoor", sum := "a4606fcb8d6af920ea123e76d6a4900c634283ee11816e80891d5e7b5d3dca3a", func := "downspout/downspoutlaw03.EntryLimits", spec := "entryLimits", inPlace := ["internal/bytealg.IndexByteString", "internal/bytealg.IndexString"], unfollowed := true, recurses := true, named := ["internal/bytealg.MaxLen", "unicode/utf8.first", "unicode/utf8.acceptRanges"], apart := false, laid := [("unicode/utf8.acceptRanges", laid_unicode_utf8_acceptRanges), ("unicode/utf8.first", laid_unicode_utf8_first)] }
def EntryLimitsSaid : Prop := entryLimitsRow.holds Tryd.pinned (OpenSpec.ofChange entryLimitsSpec)

/-- ITS FALSE NEIGHBOUR: 'it returns false'. Refute it at one input. -/
def entryLimitsWrong : ChangeSpec := { name := "entryLimits", fn := fun _ => fun
  | [d1, d2, d3] => { results := [.lit (.bool false)], args := [d1, d2, d3] }
  | _ => none }
def EntryLimitsWrongFalsely : Prop := entryLimitsRow.holds Tryd.pinned (OpenSpec.ofChange entryLimitsWrong)

/-- 'downspoutlaw03.EntryKinds': WHATEVER THE INPUT: true; the input reads as it did. -/
def entryKindsSpec : ChangeSpec := { name := "entryKinds", fn := fun _ => fun
  | [d1, d2, d3] => { results := [.lit (.bool true)], args := [d1, d2, d3] }
  | _ => none }
def entryKindsRow : OpenClaim := { program := "ytbjchookalpoiaadoor", sum := "a4606fcb8d6af920ea123e76d6a4900c634283ee11816e80891d5e7b5d3dca3a", func := "downspout/downspoutlaw03.EntryKinds", spec := "entryKinds", inPlace := ["internal/bytealg.IndexByteString", "internal/bytealg.IndexString"], unfollowed := true, recurses := true, named := ["internal/bytealg.MaxLen", "unicode/utf8.first", "unicode/utf8.acceptRanges"], apart := false, laid := [("unicode/utf8.acceptRanges", laid_unicode_utf8_acceptRanges), ("unicode/utf8.first", laid_unicode_utf8_first)] }
def EntryKindsSaid : Prop := entryKindsRow.holds Tryd.pinned (OpenSpec.ofChange entryKindsSpec)

/-- ITS FALSE NEIGHBOUR: 'it returns false'. Refute it at one input. -/
def entryKindsWrong : ChangeSpec := { name := "entryKinds", fn := fun _ => fun
  | [d1, d2, d3] => { results := [.lit (.bool false)], args := [d1, d2, d3] }
  | _ => none }
def EntryKindsWrongFalsely : Prop := entryKindsRow.holds Tryd.pinned (OpenSpec.ofChange entryKindsWrong)

/- THE SECOND FORM. 'bulk': how many values and letters a reading holds, each counted each time it is reached (what is shared counts as often as it is met; a slice's spare places count too). A statement '..UptoSaid' is the law's where the arguments, and the package variables that the reading takes, are together of bulk at most 1048576: NARROWER than '..Said'. Prove '..Said' where nothing that the law and all that it calls make is longer than what came in: it says more and counts as full. Else prove '..UptoSaid'. A law counts once. -/
mutual
def uptoBulk {H : Type} : DataW H → Nat
  | .lit (.string bytes) => bytes.length + 1
  | .lit _ => 1
  | .nil => 1
  | .ptr d => uptoBulk d + 1
  | .slice elems spare => uptoBulkAll elems + uptoBulkAll spare + 1
  | .agg parts => uptoBulkAll parts + 1
  | .iface _ d => uptoBulk d + 1
  | .map entries => uptoBulkEntries entries + 1
  | .held _ => 1
def uptoBulkAll {H : Type} : List (DataW H) → Nat
  | [] => 0
  | d :: r => uptoBulk d + uptoBulkAll r
def uptoBulkEntries {H : Type} : List (Lit × DataW H) → Nat
  | [] => 0
  | x :: r => uptoBulkEntry x + uptoBulkEntries r
def uptoBulkEntry {H : Type} : Lit × DataW H → Nat
  | (.string bytes, d) => bytes.length + uptoBulk d + 1
  | (_, d) => uptoBulk d + 1
 end
def uptoSmall : (H : Type) → List (DataW H) → Bool := fun _ ds => decide (uptoBulkAll ds ≤ 1048576)
def OpenSpec.upto (s : _root_.Go.ChangeSpec) : _root_.Go.OpenSpec := { _root_.Go.OpenSpec.ofChange s with cond := some uptoSmall }

/-- 'downspoutlaw03.EntryMatchesReference', WHERE WHAT IT READS IS OF BULK AT MOST 1048576: true; the input reads as it did. -/
def entryMatchesReferenceUptoRow : OpenClaim := { program := "ytbjchookalpoiaadoor", sum := "a4606fcb8d6af920ea123e76d6a4900c634283ee11816e80891d5e7b5d3dca3a", func := "downspout/downspoutlaw03.EntryMatchesReference", spec := "entryMatchesReference", inPlace := ["internal/bytealg.IndexByteString", "internal/bytealg.IndexString"], unfollowed := true, recurses := true, named := ["internal/bytealg.MaxLen", "unicode/utf8.first", "unicode/utf8.acceptRanges"], apart := false, laid := [("unicode/utf8.acceptRanges", laid_unicode_utf8_acceptRanges), ("unicode/utf8.first", laid_unicode_utf8_first)], narrowed := true }
def EntryMatchesReferenceUptoSaid : Prop := entryMatchesReferenceUptoRow.holds Tryd.pinned (OpenSpec.upto entryMatchesReferenceSpec)

/-- 'downspoutlaw03.EntryValues', WHERE WHAT IT READS IS OF BULK AT MOST 1048576: true; the input reads as it did. -/
def entryValuesUptoRow : OpenClaim := { program := "ytbjchookalpoiaadoor", sum := "a4606fcb8d6af920ea123e76d6a4900c634283ee11816e80891d5e7b5d3dca3a", func := "downspout/downspoutlaw03.EntryValues", spec := "entryValues", inPlace := ["internal/bytealg.IndexByteString", "internal/bytealg.IndexString"], unfollowed := true, recurses := true, named := ["internal/bytealg.MaxLen", "unicode/utf8.first", "unicode/utf8.acceptRanges"], apart := false, laid := [("unicode/utf8.acceptRanges", laid_unicode_utf8_acceptRanges), ("unicode/utf8.first", laid_unicode_utf8_first)], narrowed := true }
def EntryValuesUptoSaid : Prop := entryValuesUptoRow.holds Tryd.pinned (OpenSpec.upto entryValuesSpec)

/-- 'downspoutlaw03.EntryDecodes', WHERE WHAT IT READS IS OF BULK AT MOST 1048576: true; the input reads as it did. -/
def entryDecodesUptoRow : OpenClaim := { program := "ytbjchookalpoiaadoor", sum := "a4606fcb8d6af920ea123e76d6a4900c634283ee11816e80891d5e7b5d3dca3a", func := "downspout/downspoutlaw03.EntryDecodes", spec := "entryDecodes", inPlace := ["internal/bytealg.IndexByteString", "internal/bytealg.IndexString"], unfollowed := true, recurses := true, named := ["internal/bytealg.MaxLen", "unicode/utf8.first", "unicode/utf8.acceptRanges"], apart := false, laid := [("unicode/utf8.acceptRanges", laid_unicode_utf8_acceptRanges), ("unicode/utf8.first", laid_unicode_utf8_first)], narrowed := true }
def EntryDecodesUptoSaid : Prop := entryDecodesUptoRow.holds Tryd.pinned (OpenSpec.upto entryDecodesSpec)

/-- 'downspoutlaw03.EntryCharges', WHERE WHAT IT READS IS OF BULK AT MOST 1048576: true; the input reads as it did. -/
def entryChargesUptoRow : OpenClaim := { program := "ytbjchookalpoiaadoor", sum := "a4606fcb8d6af920ea123e76d6a4900c634283ee11816e80891d5e7b5d3dca3a", func := "downspout/downspoutlaw03.EntryCharges", spec := "entryCharges", inPlace := ["internal/bytealg.IndexByteString", "internal/bytealg.IndexString"], unfollowed := true, recurses := true, named := ["internal/bytealg.MaxLen", "unicode/utf8.first", "unicode/utf8.acceptRanges"], apart := false, laid := [("unicode/utf8.acceptRanges", laid_unicode_utf8_acceptRanges), ("unicode/utf8.first", laid_unicode_utf8_first)], narrowed := true }
def EntryChargesUptoSaid : Prop := entryChargesUptoRow.holds Tryd.pinned (OpenSpec.upto entryChargesSpec)

/-- 'downspoutlaw03.EntryTotals', WHERE WHAT IT READS IS OF BULK AT MOST 1048576: true; the input reads as it did. -/
def entryTotalsUptoRow : OpenClaim := { program := "ytbjchookalpoiaadoor", sum := "a4606fcb8d6af920ea123e76d6a4900c634283ee11816e80891d5e7b5d3dca3a", func := "downspout/downspoutlaw03.EntryTotals", spec := "entryTotals", inPlace := ["internal/bytealg.IndexByteString", "internal/bytealg.IndexString"], unfollowed := true, recurses := true, named := ["internal/bytealg.MaxLen", "unicode/utf8.first", "unicode/utf8.acceptRanges"], apart := false, laid := [("unicode/utf8.acceptRanges", laid_unicode_utf8_acceptRanges), ("unicode/utf8.first", laid_unicode_utf8_first)], narrowed := true }
def EntryTotalsUptoSaid : Prop := entryTotalsUptoRow.holds Tryd.pinned (OpenSpec.upto entryTotalsSpec)

/-- 'downspoutlaw03.EntryLimits', WHERE WHAT IT READS IS OF BULK AT MOST 1048576: true; the input reads as it did. -/
def entryLimitsUptoRow : OpenClaim := { program := "ytbjchookalpoiaadoor", sum := "a4606fcb8d6af920ea123e76d6a4900c634283ee11816e80891d5e7b5d3dca3a", func := "downspout/downspoutlaw03.EntryLimits", spec := "entryLimits", inPlace := ["internal/bytealg.IndexByteString", "internal/bytealg.IndexString"], unfollowed := true, recurses := true, named := ["internal/bytealg.MaxLen", "unicode/utf8.first", "unicode/utf8.acceptRanges"], apart := false, laid := [("unicode/utf8.acceptRanges", laid_unicode_utf8_acceptRanges), ("unicode/utf8.first", laid_unicode_utf8_first)], narrowed := true }
def EntryLimitsUptoSaid : Prop := entryLimitsUptoRow.holds Tryd.pinned (OpenSpec.upto entryLimitsSpec)

/-- 'downspoutlaw03.EntryKinds', WHERE WHAT IT READS IS OF BULK AT MOST 1048576: true; the input reads as it did. -/
def entryKindsUptoRow : OpenClaim := { program := "ytbjchookalpoiaadoor", sum := "a4606fcb8d6af920ea123e76d6a4900c634283ee11816e80891d5e7b5d3dca3a", func := "downspout/downspoutlaw03.EntryKinds", spec := "entryKinds", inPlace := ["internal/bytealg.IndexByteString", "internal/bytealg.IndexString"], unfollowed := true, recurses := true, named := ["internal/bytealg.MaxLen", "unicode/utf8.first", "unicode/utf8.acceptRanges"], apart := false, laid := [("unicode/utf8.acceptRanges", laid_unicode_utf8_acceptRanges), ("unicode/utf8.first", laid_unicode_utf8_first)], narrowed := true }
def EntryKindsUptoSaid : Prop := entryKindsUptoRow.holds Tryd.pinned (OpenSpec.upto entryKindsSpec)

end Rows
end Go.Proofs.YtbjchookalpoiaaDoor
