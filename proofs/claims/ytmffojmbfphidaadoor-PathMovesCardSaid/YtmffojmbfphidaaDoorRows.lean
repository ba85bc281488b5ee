/-
  NARROWER THAN 'FOR EVERY INPUT', by the rows' own cells (each row's printed sentence says how): PathMatchesReference: laid · PathPlaces: laid · PathTyped: laid · PathJoins: laid · PathBelow: laid · PathKeys: laid · PathOrders: laid · PathLimits: laid · PathMoves: laid.
  DERIVED. THE GIVEN ROWS OF THIS SEAT. 9 by the template 'for every input the law returns true; each argument reads behind the call as it read before'; 0 by the template 'total and deterministic' (their statements: YtmffojmbfphidaaDoorTotals.lean).
  GIVEN WITH THE SEED: the statements are not yours to turn. If you find one false, say at which input.
  Laid BY PROGRAM, IN A SANDBOX (cutbox-rows.mjs): the forced cells as the released guide's own fill.sh prints them over the translation 25d6cc6a418a8870… (all of the seat's roots in one cut). By AI agents, Wed Nov 11 2026. No macro, syntax, notation, axiom, sorry.
-/
import Derived.Test.YtmffojmbfphidaaDoorChecked
import GoSem.PinnedTables
import GoSem.Claim
import GoSem.ClaimJoined
import GoSem.ClaimMapViews
import Derived.JoinedTies
import Derived.KernelRfl
namespace Go.Proofs.YtmffojmbfphidaaDoor
/- THE CELL 'sum', in the pinned program and in every row, IS THE sha256 OF THE DUMP (.gsa) THAT YtmffojmbfphidaaDoorProg.lean LOADS. Nothing in Lean hashes anything: it is a label: what it is worth is what the hold of that sum in a sandbox is worth. -/
noncomputable def Tryd.pinned : Pinned := { name := "ytmffojmbfphidaadoor", sum := "25d6cc6a418a887095fe69447c9d2eaf0af786c4345e3aba93fe644677ccb7f8", checked := Tryd.checked }
namespace Rows
def none {H : Type} : Left H := { results := [], args := [] }

/- WHAT THE LISTED PACKAGE-LEVEL VARIABLES READ AS WHEN THE CALL BEGINS. Each datum BY PROGRAM (the guide's laid-datum.mjs) off the statement by which the dump's own 'gosem.cut.vars' lays the variable. In a bare row this is a premise. The card (YtmffojmbfphidaaDoorCards.lean) ties it to the program's text. -/
def laid_unicode_utf8_acceptRanges {H : Type} : DataW H := .agg [.agg [.lit (.int .u8 128), .lit (.int .u8 191)], .agg [.lit (.int .u8 160), .lit (.int .u8 191)], .agg [.lit (.int .u8 128), .lit (.int .u8 159)], .agg [.lit (.int .u8 144), .lit (.int .u8 191)], .agg [.lit (.int .u8 128), .lit (.int .u8 143)], .agg [.lit (.int .u8 0), .lit (.int .u8 0)], .agg [.lit (.int .u8 0), .lit (.int .u8 0)], .agg [.lit (.int .u8 0), .lit (.int .u8 0)], .agg [.lit (.int .u8 0), .lit (.int .u8 0)], .agg [.lit (.int .u8 0), .lit (.int .u8 0)], .agg [.lit (.int .u8 0), .lit (.int .u8 0)], .agg [.lit (.int .u8 0), .lit (.int .u8 0)], .agg [.lit (.int .u8 0), .lit (.int .u8 0)], .agg [.lit (.int .u8 0), .lit (.int .u8 0)], .agg [.lit (.int .u8 0), .lit (.int .u8 0)], .agg [.lit (.int .u8 0), .lit (.int .u8 0)]]
/-- One of Go's own tables, pinned by name: the form's constant. -/
def laid_unicode_utf8_first : DataW Unit := Go.Pinned.utf8First

/-- 'downspoutlaw01.PathMatchesReference': WHATEVER THE INPUT: true; the input reads as it did. -/
def pathMatchesReferenceSpec : ChangeSpec := { name := "pathMatchesReference", fn := fun _ => fun
  | [d1, d2, d3] => { results := [.lit (.bool true)], args := [d1, d2, d3] }
  | _ => none }
def pathMatchesReferenceRow : OpenClaim := { program := "ytmffojmbfphidaadoor", sum := "25d6cc6a418a887095fe69447c9d2eaf0af786c4345e3aba93fe644677ccb7f8", func := "downspout/downspoutlaw01.PathMatchesReference", spec := "pathMatchesReference", inPlace := ["internal/bytealg.IndexByteString", "internal/bytealg.IndexString"], unfollowed := true, recurses := true, named := ["internal/bytealg.MaxLen", "unicode/utf8.first", "unicode/utf8.acceptRanges"], apart := false, laid := [("unicode/utf8.acceptRanges", laid_unicode_utf8_acceptRanges), ("unicode/utf8.first", laid_unicode_utf8_first)] }
def PathMatchesReferenceSaid : Prop := pathMatchesReferenceRow.holds Tryd.pinned (OpenSpec.ofChange pathMatchesReferenceSpec)

/-- ITS FALSE NEIGHBOUR: 'it returns false'. Refute it at one input. -/
def pathMatchesReferenceWrong : ChangeSpec := { name := "pathMatchesReference", fn := fun _ => fun
  | [d1, d2, d3] => { results := [.lit (.bool false)], args := [d1, d2, d3] }
  | _ => none }
def PathMatchesReferenceWrongFalsely : Prop := pathMatchesReferenceRow.holds Tryd.pinned (OpenSpec.ofChange pathMatchesReferenceWrong)

/-- 'downspoutlaw01.PathPlaces': WHATEVER THE INPUT: true; the input reads as it did. -/
def pathPlacesSpec : ChangeSpec := { name := "pathPlaces", fn := fun _ => fun
  | [d1, d2, d3] => { results := [.lit (.bool true)], args := [d1, d2, d3] }
  | _ => none }
def pathPlacesRow : OpenClaim := { program := "ytmffojmbfphidaadoor", sum := "25d6cc6a418a887095fe69447c9d2eaf0af786c4345e3aba93fe644677ccb7f8", func := "downspout/downspoutlaw01.PathPlaces", spec := "pathPlaces", inPlace := ["internal/bytealg.IndexByteString", "internal/bytealg.IndexString"], unfollowed := true, recurses := true, named := ["internal/bytealg.MaxLen", "unicode/utf8.first", "unicode/utf8.acceptRanges"], apart := false, laid := [("unicode/utf8.acceptRanges", laid_unicode_utf8_acceptRanges), ("unicode/utf8.first", laid_unicode_utf8_first)] }
def PathPlacesSaid : Prop := pathPlacesRow.holds Tryd.pinned (OpenSpec.ofChange pathPlacesSpec)

/-- ITS FALSE NEIGHBOUR: 'it returns false'. Refute it at one input. -/
def pathPlacesWrong : ChangeSpec := { name := "pathPlaces", fn := fun _ => fun
  | [d1, d2, d3] => { results := [.lit (.bool false)], args := [d1, d2, d3] }
  | _ => none }
def PathPlacesWrongFalsely : Prop := pathPlacesRow.holds Tryd.pinned (OpenSpec.ofChange pathPlacesWrong)

/-- 'downspoutlaw01.PathTyped': WHATEVER THE INPUT: true; the input reads as it did. -/
def pathTypedSpec : ChangeSpec := { name := "pathTyped", fn := fun _ => fun
  | [d1, d2] => { results := [.lit (.bool true)], args := [d1, d2] }
  | _ => none }
def pathTypedRow : OpenClaim := { program := "ytmffojmbfphidaadoor", sum := "25d6cc6a418a887095fe69447c9d2eaf0af786c4345e3aba93fe644677ccb7f8", func := "downspout/downspoutlaw01.PathTyped", spec := "pathTyped", inPlace := ["internal/bytealg.IndexByteString", "internal/bytealg.IndexString"], unfollowed := true, recurses := true, named := ["internal/bytealg.MaxLen", "unicode/utf8.first", "unicode/utf8.acceptRanges"], apart := false, laid := [("unicode/utf8.acceptRanges", laid_unicode_utf8_acceptRanges), ("unicode/utf8.first", laid_unicode_utf8_first)] }
def PathTypedSaid : Prop := pathTypedRow.holds Tryd.pinned (OpenSpec.ofChange pathTypedSpec)

/-- ITS FALSE NEIGHBOUR: 'it returns false'. Refute it at one input. -/
def pathTypedWrong : ChangeSpec := { name := "pathTyped", fn := fun _ => fun
  | [d1, d2] => { results := [.lit (.bool false)], args := [d1, d2] }
  | _ => none }
def PathTypedWrongFalsely : Prop := pathTypedRow.holds Tryd.pinned (OpenSpec.ofChange pathTypedWrong)

/-- 'downspoutlaw01.PathJoins': WHATEVER THE INPUT: true; the input reads as it did. -/
def pathJoinsSpec : ChangeSpec := { name := "pathJoins", fn := fun _ => fun
  | [d1, d2] => { results := [.lit (.bool true)], args := [d1, d2] }
  | _ => none }
def pathJoinsRow : OpenClaim := { program := "ytmffojmbfphidaadoor", sum := "25d6cc6a418a887095fe69447c9d2eaf0af786c4345e3aba93fe644677ccb7f8", func := "downspout/downspoutlaw01.PathJoins", spec := "pathJoins", inPlace := ["internal/bytealg.IndexByteString", "internal/bytealg.IndexString"], unfollowed := true, recurses := true, named := ["internal/bytealg.MaxLen", "unicode/utf8.first", "unicode/utf8.acceptRanges"], apart := false, laid := [("unicode/utf8.acceptRanges", laid_unicode_utf8_acceptRanges), ("unicode/utf8.first", laid_unicode_utf8_first)] }
def PathJoinsSaid : Prop := pathJoinsRow.holds Tryd.pinned (OpenSpec.ofChange pathJoinsSpec)

/-- ITS FALSE NEIGHBOUR: 'it returns false'. Refute it at one input. -/
def pathJoinsWrong : ChangeSpec := { name := "pathJoins", fn := fun _ => fun
  | [d1, d2] => { results := [.lit (.bool false)], args := [d1, d2] }
  | _ => none }
def PathJoinsWrongFalsely : Prop := pathJoinsRow.holds Tryd.pinned (OpenSpec.ofChange pathJoinsWrong)

/-- 'downspoutlaw01.PathBelow': WHATEVER THE INPUT: true; the input reads as it did. -/
def pathBelowSpec : ChangeSpec := { name := "pathBelow", fn := fun _ => fun
  | [d1, d2] => { results := [.lit (.bool true)], args := [d1, d2] }
  | _ => none }
def pathBelowRow : OpenClaim := { program := "ytmffojmbfphidaadoor", sum := "25d6cc6a418a887095fe69447c9d2eaf0af786c4345e3aba93fe644677ccb7f8", func := "downspout/downspoutlaw01.PathBelow", spec := "pathBelow", inPlace := ["internal/bytealg.IndexByteString", "internal/bytealg.IndexString"], unfollowed := true, recurses := true, named := ["internal/bytealg.MaxLen", "unicode/utf8.first", "unicode/utf8.acceptRanges"], apart := false, laid := [("unicode/utf8.acceptRanges", laid_unicode_utf8_acceptRanges), ("unicode/utf8.first", laid_unicode_utf8_first)] }
def PathBelowSaid : Prop := pathBelowRow.holds Tryd.pinned (OpenSpec.ofChange pathBelowSpec)

/-- ITS FALSE NEIGHBOUR: 'it returns false'. Refute it at one input. -/
def pathBelowWrong : ChangeSpec := { name := "pathBelow", fn := fun _ => fun
  | [d1, d2] => { results := [.lit (.bool false)], args := [d1, d2] }
  | _ => none }
def PathBelowWrongFalsely : Prop := pathBelowRow.holds Tryd.pinned (OpenSpec.ofChange pathBelowWrong)

/-- 'downspoutlaw01.PathKeys': WHATEVER THE INPUT: true; the input reads as it did. -/
def pathKeysSpec : ChangeSpec := { name := "pathKeys", fn := fun _ => fun
  | [d1, d2] => { results := [.lit (.bool true)], args := [d1, d2] }
  | _ => none }
def pathKeysRow : OpenClaim := { program := "ytmffojmbfphidaadoor", sum := "25d6cc6a418a887095fe69447c9d2eaf0af786c4345e3aba93fe644677ccb7f8", func := "downspout/downspoutlaw01.PathKeys", spec := "pathKeys", inPlace := ["internal/bytealg.IndexByteString", "internal/bytealg.IndexString"], unfollowed := true, recurses := true, named := ["internal/bytealg.MaxLen", "unicode/utf8.first", "unicode/utf8.acceptRanges"], apart := false, laid := [("unicode/utf8.acceptRanges", laid_unicode_utf8_acceptRanges), ("unicode/utf8.first", laid_unicode_utf8_first)] }
def PathKeysSaid : Prop := pathKeysRow.holds Tryd.pinned (OpenSpec.ofChange pathKeysSpec)

/-- ITS FALSE NEIGHBOUR: 'it returns false'. Refute it at one input. -/
def pathKeysWrong : ChangeSpec := { name := "pathKeys", fn := fun _ => fun
  | [d1, d2] => { results := [.lit (.bool false)], args := [d1, d2] }
  | _ => none }
def PathKeysWrongFalsely : Prop := pathKeysRow.holds Tryd.pinned (OpenSpec.ofChange pathKeysWrong)

/-- 'downspoutlaw01.PathOrders': WHATEVER THE INPUT: true; the input reads as it did. -/
def pathOrdersSpec : ChangeSpec := { name := "pathOrders", fn := fun _ => fun
  | [d1, d2, d3] => { results := [.lit (.bool true)], args := [d1, d2, d3] }
  | _ => none }
def pathOrdersRow : OpenClaim := { program := "ytmffojmbfphidaadoor", sum := "25d6cc6a418a887095fe69447c9d2eaf0af786c4345e3aba93fe644677ccb7f8", func := "downspout/downspoutlaw01.PathOrders", spec := "pathOrders", inPlace := ["internal/bytealg.IndexByteString", "internal/bytealg.IndexString"], unfollowed := true, recurses := true, named := ["internal/bytealg.MaxLen", "unicode/utf8.first", "unicode/utf8.acceptRanges"], apart := false, laid := [("unicode/utf8.acceptRanges", laid_unicode_utf8_acceptRanges), ("unicode/utf8.first", laid_unicode_utf8_first)] }
def PathOrdersSaid : Prop := pathOrdersRow.holds Tryd.pinned (OpenSpec.ofChange pathOrdersSpec)

/-- ITS FALSE NEIGHBOUR: 'it returns false'. Refute it at one input. -/
def pathOrdersWrong : ChangeSpec := { name := "pathOrders", fn := fun _ => fun
  | [d1, d2, d3] => { results := [.lit (.bool false)], args := [d1, d2, d3] }
  | _ => none }
def PathOrdersWrongFalsely : Prop := pathOrdersRow.holds Tryd.pinned (OpenSpec.ofChange pathOrdersWrong)

/-- 'downspoutlaw01.PathLimits': WHATEVER THE INPUT: true; the input reads as it did. -/
def pathLimitsSpec : ChangeSpec := { name := "pathLimits", fn := fun _ => fun
  | [d1, d2] => { results := [.lit (.bool true)], args := [d1, d2] }
  | _ => none }
def pathLimitsRow : OpenClaim := { program := "ytmffojmbfphidaadoor", sum := "25d6cc6a418a887095fe69447c9d2eaf0af786c4345e3aba93fe644677ccb7f8", func := "downspout/downspoutlaw01.PathLimits", spec := "pathLimits", inPlace := ["internal/bytealg.IndexByteString", "internal/bytealg.IndexString"], unfollowed := true, recurses := true, named := ["internal/bytealg.MaxLen", "unicode/utf8.first", "unicode/utf8.acceptRanges"], apart := false, laid := [("unicode/utf8.acceptRanges", laid_unicode_utf8_acceptRanges), ("unicode/utf8.first", laid_unicode_utf8_first)] }
def PathLimitsSaid : Prop := pathLimitsRow.holds Tryd.pinned (OpenSpec.ofChange pathLimitsSpec)

/-- ITS FALSE NEIGHBOUR: 'it returns false'. Refute it at one input. -/
def pathLimitsWrong : ChangeSpec := { name := "pathLimits", fn := fun _ => fun
  | [d1, d2] => { results := [.lit (.bool false)], args := [d1, d2] }
  | _ => none }
def PathLimitsWrongFalsely : Prop := pathLimitsRow.holds Tryd.pinned (OpenSpec.ofChange pathLimitsWrong)

/-- 'downspoutlaw01.PathMoves': WHATEVER THE INPUT: true; the input reads as it did. -/
def pathMovesSpec : ChangeSpec := { name := "pathMoves", fn := fun _ => fun
  | [d1, d2, d3] => { results := [.lit (.bool true)], args := [d1, d2, d3] }
  | _ => none }
def pathMovesRow : OpenClaim := { program := "ytmffojmbfphidaadoor", sum := "25d6cc6a418a887095fe69447c9d2eaf0af786c4345e3aba93fe644677ccb7f8", func := "downspout/downspoutlaw01.PathMoves", spec := "pathMoves", inPlace := ["internal/bytealg.IndexByteString", "internal/bytealg.IndexString"], unfollowed := true, recurses := true, named := ["internal/bytealg.MaxLen", "unicode/utf8.first", "unicode/utf8.acceptRanges"], apart := false, laid := [("unicode/utf8.acceptRanges", laid_unicode_utf8_acceptRanges), ("unicode/utf8.first", laid_unicode_utf8_first)] }
def PathMovesSaid : Prop := pathMovesRow.holds Tryd.pinned (OpenSpec.ofChange pathMovesSpec)

/-- ITS FALSE NEIGHBOUR: 'it returns false'. Refute it at one input. -/
def pathMovesWrong : ChangeSpec := { name := "pathMoves", fn := fun _ => fun
  | [d1, d2, d3] => { results := [.lit (.bool false)], args := [d1, d2, d3] }
  | _ => none }
def PathMovesWrongFalsely : Prop := pathMovesRow.holds Tryd.pinned (OpenSpec.ofChange pathMovesWrong)

/- THE SECOND FORM. 'bulk': how many values and letters a reading holds, each counted each time it is reached (what is shared counts as often as it is met; a slice's spare places count too). A statement '..UptoSaid' is the law's where the arguments, and the package variables that the reading takes, are together of bulk at most 1048576: NARROWER than '..Said'. Prove '..Said' where nothing that the law and all that it calls make is longer than what came in: it says more and counts as full. Else prove '..UptoSaid'. A law counts once. -/
mutual
def uptoBulk {H : Type} : DataW H → Nat
  | .lit (.string bytes) => bytes.length + 1
  | .lit _ => 1
  | .nil => 1
  | .ptr d => uptoBulk d + 1
  | .slice elems spare => uptoBulkAll elems + uptoBulkAll spare + 1
  | .agg parts => uptoBulkAll parts + 1
  | .iface _ d => uptoBulk d + 1
  | .map entries => uptoBulkEntries entries + 1
  | .held _ => 1
def uptoBulkAll {H : Type} : List (DataW H) → Nat
  | [] => 0
  | d :: r => uptoBulk d + uptoBulkAll r
def uptoBulkEntries {H : Type} : List (Lit × DataW H) → Nat
  | [] => 0
  | x :: r => uptoBulkEntry x + uptoBulkEntries r
def uptoBulkEntry {H : Type} : Lit × DataW H → Nat
  | (.string bytes, d) => bytes.length + uptoBulk d + 1
  | (_, d) => uptoBulk d + 1
 end
def uptoSmall : (H : Type) → List (DataW H) → Bool := fun _ ds => decide (uptoBulkAll ds ≤ 1048576)
def OpenSpec.upto (s : _root_.Go.ChangeSpec) : _root_.Go.OpenSpec := { _root_.Go.OpenSpec.ofChange s with cond := some uptoSmall }

/-- 'downspoutlaw01.PathMatchesReference', WHERE WHAT IT READS IS OF BULK AT MOST 1048576: true; the input reads as it did. -/
def pathMatchesReferenceUptoRow : OpenClaim := { program := "ytmffojmbfphidaadoor", sum := "25d6cc6a418a887095fe69447c9d2eaf0af786c4345e3aba93fe644677ccb7f8", func := "downspout/downspoutlaw01.PathMatchesReference", spec := "pathMatchesReference", inPlace := ["internal/bytealg.IndexByteString", "internal/bytealg.IndexString"], unfollowed := true, recurses := true, named := ["internal/bytealg.MaxLen", "unicode/utf8.first", "unicode/utf8.acceptRanges"], apart := false, laid := [("unicode/utf8.acceptRanges", laid_unicode_utf8_acceptRanges), ("unicode/utf8.first", laid_unicode_utf8_first)], narrowed := true }
def PathMatchesReferenceUptoSaid : Prop := pathMatchesReferenceUptoRow.holds Tryd.pinned (OpenSpec.upto pathMatchesReferenceSpec)

/-- 'downspoutlaw01.PathPlaces', WHERE WHAT IT READS IS OF BULK AT MOST 1048576: true; the input reads as it did. -/
def pathPlacesUptoRow : OpenClaim := { program := "ytmffojmbfphidaadoor", sum := "25d6cc6a418a887095fe69447c9d2eaf0af786c4345e3aba93fe644677ccb7f8", func := "downspout/downspoutlaw01.PathPlaces", spec := "pathPlaces", inPlace := ["internal/bytealg.IndexByteString", "internal/bytealg.IndexString"], unfollowed := true, recurses := true, named := ["internal/bytealg.MaxLen", "unicode/utf8.first", "unicode/utf8.acceptRanges"], apart := false, laid := [("unicode/utf8.acceptRanges", laid_unicode_utf8_acceptRanges), ("unicode/utf8.first", laid_unicode_utf8_first)], narrowed := true }
def PathPlacesUptoSaid : Prop := pathPlacesUptoRow.holds Tryd.pinned (OpenSpec.upto pathPlacesSpec)

/-- 'downspoutlaw01.PathTyped', WHERE WHAT IT READS IS OF BULK AT MOST 1048576: true; the input reads as it did. -/
def pathTypedUptoRow : OpenClaim := { program := "ytmffojmbfphidaadoor", sum := "25d6cc6a418a887095fe69447c9d2eaf0af786c4345e3aba93fe644677ccb7f8", func := "downspout/downspoutlaw01.PathTyped", spec := "pathTyped", inPlace := ["internal/bytealg.IndexByteString", "internal/bytealg.IndexString"], unfollowed := true, recurses := true, named := ["internal/bytealg.MaxLen", "unicode/utf8.first", "unicode/utf8.acceptRanges"], apart := false, laid := [("unicode/utf8.acceptRanges", laid_unicode_utf8_acceptRanges), ("unicode/utf8.first", laid_unicode_utf8_first)], narrowed := true }
def PathTypedUptoSaid : Prop := pathTypedUptoRow.holds Tryd.pinned (OpenSpec.upto pathTypedSpec)

/-- 'downspoutlaw01.PathJoins', WHERE WHAT IT READS IS OF BULK AT MOST 1048576: true; the input reads as it did. -/
def pathJoinsUptoRow : OpenClaim := { program := "ytmffojmbfphidaadoor", sum := "25d6cc6a418a887095fe69447c9d2eaf0af786c4345e3aba93fe644677ccb7f8", func := "downspout/downspoutlaw01.PathJoins", spec := "pathJoins", inPlace := ["internal/bytealg.IndexByteString", "internal/bytealg.IndexString"], unfollowed := true, recurses := true, named := ["internal/bytealg.MaxLen", "unicode/utf8.first", "unicode/utf8.acceptRanges"], apart := false, laid := [("unicode/utf8.acceptRanges", laid_unicode_utf8_acceptRanges), ("unicode/utf8.first", laid_unicode_utf8_first)], narrowed := true }
def PathJoinsUptoSaid : Prop := pathJoinsUptoRow.holds Tryd.pinned (OpenSpec.upto pathJoinsSpec)

/-- 'downspoutlaw01.PathBelow', WHERE WHAT IT READS IS OF BULK AT MOST 1048576: true; the input reads as it did. -/
def pathBelowUptoRow : OpenClaim := { program := "ytmffojmbfphidaadoor", sum := "25d6cc6a418a887095fe69447c9d2eaf0af786c4345e3aba93fe644677ccb7f8", func := "downspout/downspoutlaw01.PathBelow", spec := "pathBelow", inPlace := ["internal/bytealg.IndexByteString", "internal/bytealg.IndexString"], unfollowed := true, recurses := true, named := ["internal/bytealg.MaxLen", "unicode/utf8.first", "unicode/utf8.acceptRanges"], apart := false, laid := [("unicode/utf8.acceptRanges", laid_unicode_utf8_acceptRanges), ("unicode/utf8.first", laid_unicode_utf8_first)], narrowed := true }
def PathBelowUptoSaid : Prop := pathBelowUptoRow.holds Tryd.pinned (OpenSpec.upto pathBelowSpec)

/-- 'downspoutlaw01.PathKeys', WHERE WHAT IT READS IS OF BULK AT MOST 1048576: true; the input reads as it did. -/
def pathKeysUptoRow : OpenClaim := { program := "ytmffojmbfphidaadoor", sum := "25d6cc6a418a887095fe69447c9d2eaf0af786c4345e3aba93fe644677ccb7f8", func := "downspout/downspoutlaw01.PathKeys", spec := "pathKeys", inPlace := ["internal/bytealg.IndexByteString", "internal/bytealg.IndexString"], unfollowed := true, recurses := true, named := ["internal/bytealg.MaxLen", "unicode/utf8.first", "unicode/utf8.acceptRanges"], apart := false, laid := [("unicode/utf8.acceptRanges", laid_unicode_utf8_acceptRanges), ("unicode/utf8.first", laid_unicode_utf8_first)], narrowed := true }
def PathKeysUptoSaid : Prop := pathKeysUptoRow.holds Tryd.pinned (OpenSpec.upto pathKeysSpec)

/-- 'downspoutlaw01.PathOrders', WHERE WHAT IT READS IS OF BULK AT MOST 1048576: true; the input reads as it did. -/
def pathOrdersUptoRow : OpenClaim := { program := "ytmffojmbfphidaadoor", sum := "25d6cc6a418a887095fe69447c9d2eaf0af786c4345e3aba93fe644677ccb7f8", func := "downspout/downspoutlaw01.PathOrders", spec := "pathOrders", inPlace := ["internal/bytealg.IndexByteString", "internal/bytealg.IndexString"], unfollowed := true, recurses := true, named := ["internal/bytealg.MaxLen", "unicode/utf8.first", "unicode/utf8.acceptRanges"], apart := false, laid := [("unicode/utf8.acceptRanges", laid_unicode_utf8_acceptRanges), ("unicode/utf8.first", laid_unicode_utf8_first)], narrowed := true }
def PathOrdersUptoSaid : Prop := pathOrdersUptoRow.holds Tryd.pinned (OpenSpec.upto pathOrdersSpec)

/-- 'downspoutlaw01.PathLimits', WHERE WHAT IT READS IS OF BULK AT MOST 1048576: true; the input reads as it did. -/
def pathLimitsUptoRow : OpenClaim := { program := "ytmffojmbfphidaadoor", sum := "25d6cc6a418a887095fe69447c9d2eaf0af786c4345e3aba93fe644677ccb7f8", func := "downspout/downspoutlaw01.PathLimits", spec := "pathLimits", inPlace := ["internal/bytealg.IndexByteString", "internal/bytealg.IndexString"], unfollowed := true, recurses := true, named := ["internal/bytealg.MaxLen", "unicode/utf8.first", "unicode/utf8.acceptRanges"], apart := false, laid := [("unicode/utf8.acceptRanges", laid_unicode_utf8_acceptRanges), ("unicode/utf8.first", laid_unicode_utf8_first)], narrowed := true }
def PathLimitsUptoSaid : Prop := pathLimitsUptoRow.holds Tryd.pinned (OpenSpec.upto pathLimitsSpec)

/-- 'downspoutlaw01.PathMoves', WHERE WHAT IT READS IS OF BULK AT MOST 1048576: true; the input reads as it did. -/
def pathMovesUptoRow : OpenClaim := { program := "ytmffojmbfphidaadoor", sum := "25d6cc6a418a887095fe69447c9d2eaf0af786c4345e3aba93fe644677ccb7f8", func := "downspout/downspoutlaw01.PathMoves", spec := "pathMoves", inPlace := ["internal/bytealg.IndexByteString", "internal/bytealg.IndexString"], unfollowed := true, recurses := true, named := ["internal/bytealg.MaxLen", "unicode/utf8.first", "unicode/utf8.acceptRanges"], apart := false, laid := [("unicode/utf8.acceptRanges", laid_unicode_utf8_acceptRanges), ("unicode/utf8.first", laid_unicode_utf8_first)], narrowed := true }
def PathMovesUptoSaid : Prop := pathMovesUptoRow.holds Tryd.pinned (OpenSpec.upto pathMovesSpec)

end Rows
end Go.Proofs.YtmffojmbfphidaaDoor
