/-
  No cell of these rows narrows 'for every input' (looked for: loops, veiled, ifaces, maps, wideKeys, modest, calm, conditions, laid).
  DERIVED. THE GIVEN ROWS OF THIS SEAT. 9 by the template 'for every input the law returns true; each argument reads behind the call as it read before'; 0 by the template 'total and deterministic' (their statements: YtknfflpgemghmaaGreatTotals.lean).
  GIVEN WITH THE SEED: the statements are not yours to turn. If you find one false, say at which input.
  Laid BY PROGRAM, IN A SANDBOX (cutbox-rows.mjs): the forced cells as the released guide's own fill.sh prints them over the translation 69e970f356ba8c17… (all of the seat's roots in one cut). By AI agents, Wed Nov 11 2026. No macro, syntax, notation, axiom, sorry.
-/
import Derived.Test.YtknfflpgemghmaaGreatChecked
import GoSem.Claim
import GoSem.ClaimJoined
import GoSem.ClaimMapViews
import Derived.JoinedTies
import Derived.KernelRfl
namespace Go.Proofs.YtknfflpgemghmaaGreat
/- THE CELL 'sum', in the pinned program and in every row, IS THE sha256 OF THE DUMP (.gsa) THAT YtknfflpgemghmaaGreatProg.lean LOADS. Nothing in Lean hashes anything: it is a label: what it is worth is what the hold of that sum in a sandbox is worth. -/
noncomputable def Tryz.pinned : Pinned := { name := "ytknfflpgemghmaagreat", sum := "69e970f356ba8c17e8dbcd2d18278a2622178de276f059d2bb0daf1a9ba54e8f", checked := Tryz.checked }
namespace Rows
def none {H : Type} : Left H := { results := [], args := [] }

/-- 'downspoutlaw05.MsgValid': WHATEVER THE INPUT: true; the input reads as it did. -/
def msgValidSpec : ChangeSpec := { name := "msgValid", fn := fun _ => fun
  | [d1, d2, d3] => { results := [.lit (.bool true)], args := [d1, d2, d3] }
  | _ => none }
def msgValidRow : OpenClaim := { program := "ytknfflpgemghmaagreat", sum := "69e970f356ba8c17e8dbcd2d18278a2622178de276f059d2bb0daf1a9ba54e8f", func := "downspout/downspoutlaw05.MsgValid", spec := "msgValid", unfollowed := true, recurses := true, apart := false }
def MsgValidSaid : Prop := msgValidRow.holds Tryz.pinned (OpenSpec.ofChange msgValidSpec)

/-- ITS FALSE NEIGHBOUR: 'it returns false'. Refute it at one input. -/
def msgValidWrong : ChangeSpec := { name := "msgValid", fn := fun _ => fun
  | [d1, d2, d3] => { results := [.lit (.bool false)], args := [d1, d2, d3] }
  | _ => none }
def MsgValidWrongFalsely : Prop := msgValidRow.holds Tryz.pinned (OpenSpec.ofChange msgValidWrong)

/-- 'downspoutlaw05.MsgOutside': WHATEVER THE INPUT: true; the input reads as it did. -/
def msgOutsideSpec : ChangeSpec := { name := "msgOutside", fn := fun _ => fun
  | [d1, d2] => { results := [.lit (.bool true)], args := [d1, d2] }
  | _ => none }
def msgOutsideRow : OpenClaim := { program := "ytknfflpgemghmaagreat", sum := "69e970f356ba8c17e8dbcd2d18278a2622178de276f059d2bb0daf1a9ba54e8f", func := "downspout/downspoutlaw05.MsgOutside", spec := "msgOutside", unfollowed := true, recurses := true, apart := false }
def MsgOutsideSaid : Prop := msgOutsideRow.holds Tryz.pinned (OpenSpec.ofChange msgOutsideSpec)

/-- ITS FALSE NEIGHBOUR: 'it returns false'. Refute it at one input. -/
def msgOutsideWrong : ChangeSpec := { name := "msgOutside", fn := fun _ => fun
  | [d1, d2] => { results := [.lit (.bool false)], args := [d1, d2] }
  | _ => none }
def MsgOutsideWrongFalsely : Prop := msgOutsideRow.holds Tryz.pinned (OpenSpec.ofChange msgOutsideWrong)

/-- 'downspoutlaw05.MsgReads': WHATEVER THE INPUT: true; the input reads as it did. -/
def msgReadsSpec : ChangeSpec := { name := "msgReads", fn := fun _ => fun
  | [d1, d2, d3] => { results := [.lit (.bool true)], args := [d1, d2, d3] }
  | _ => none }
def msgReadsRow : OpenClaim := { program := "ytknfflpgemghmaagreat", sum := "69e970f356ba8c17e8dbcd2d18278a2622178de276f059d2bb0daf1a9ba54e8f", func := "downspout/downspoutlaw05.MsgReads", spec := "msgReads", unfollowed := true, recurses := true, apart := false }
def MsgReadsSaid : Prop := msgReadsRow.holds Tryz.pinned (OpenSpec.ofChange msgReadsSpec)

/-- ITS FALSE NEIGHBOUR: 'it returns false'. Refute it at one input. -/
def msgReadsWrong : ChangeSpec := { name := "msgReads", fn := fun _ => fun
  | [d1, d2, d3] => { results := [.lit (.bool false)], args := [d1, d2, d3] }
  | _ => none }
def MsgReadsWrongFalsely : Prop := msgReadsRow.holds Tryz.pinned (OpenSpec.ofChange msgReadsWrong)

/-- 'downspoutlaw05.MsgBytes': WHATEVER THE INPUT: true; the input reads as it did. -/
def msgBytesSpec : ChangeSpec := { name := "msgBytes", fn := fun _ => fun
  | [d1, d2] => { results := [.lit (.bool true)], args := [d1, d2] }
  | _ => none }
def msgBytesRow : OpenClaim := { program := "ytknfflpgemghmaagreat", sum := "69e970f356ba8c17e8dbcd2d18278a2622178de276f059d2bb0daf1a9ba54e8f", func := "downspout/downspoutlaw05.MsgBytes", spec := "msgBytes", unfollowed := true, recurses := true, apart := false }
def MsgBytesSaid : Prop := msgBytesRow.holds Tryz.pinned (OpenSpec.ofChange msgBytesSpec)

/-- ITS FALSE NEIGHBOUR: 'it returns false'. Refute it at one input. -/
def msgBytesWrong : ChangeSpec := { name := "msgBytes", fn := fun _ => fun
  | [d1, d2] => { results := [.lit (.bool false)], args := [d1, d2] }
  | _ => none }
def MsgBytesWrongFalsely : Prop := msgBytesRow.holds Tryz.pinned (OpenSpec.ofChange msgBytesWrong)

/-- 'downspoutlaw05.MsgParses': WHATEVER THE INPUT: true; the input reads as it did. -/
def msgParsesSpec : ChangeSpec := { name := "msgParses", fn := fun _ => fun
  | [d1, d2, d3] => { results := [.lit (.bool true)], args := [d1, d2, d3] }
  | _ => none }
def msgParsesRow : OpenClaim := { program := "ytknfflpgemghmaagreat", sum := "69e970f356ba8c17e8dbcd2d18278a2622178de276f059d2bb0daf1a9ba54e8f", func := "downspout/downspoutlaw05.MsgParses", spec := "msgParses", unfollowed := true, recurses := true, apart := false }
def MsgParsesSaid : Prop := msgParsesRow.holds Tryz.pinned (OpenSpec.ofChange msgParsesSpec)

/-- ITS FALSE NEIGHBOUR: 'it returns false'. Refute it at one input. -/
def msgParsesWrong : ChangeSpec := { name := "msgParses", fn := fun _ => fun
  | [d1, d2, d3] => { results := [.lit (.bool false)], args := [d1, d2, d3] }
  | _ => none }
def MsgParsesWrongFalsely : Prop := msgParsesRow.holds Tryz.pinned (OpenSpec.ofChange msgParsesWrong)

/-- 'downspoutlaw05.MsgMatchesReference': WHATEVER THE INPUT: true; the input reads as it did. -/
def msgMatchesReferenceSpec : ChangeSpec := { name := "msgMatchesReference", fn := fun _ => fun
  | [d1, d2] => { results := [.lit (.bool true)], args := [d1, d2] }
  | _ => none }
def msgMatchesReferenceRow : OpenClaim := { program := "ytknfflpgemghmaagreat", sum := "69e970f356ba8c17e8dbcd2d18278a2622178de276f059d2bb0daf1a9ba54e8f", func := "downspout/downspoutlaw05.MsgMatchesReference", spec := "msgMatchesReference", unfollowed := true, recurses := true, apart := false }
def MsgMatchesReferenceSaid : Prop := msgMatchesReferenceRow.holds Tryz.pinned (OpenSpec.ofChange msgMatchesReferenceSpec)

/-- ITS FALSE NEIGHBOUR: 'it returns false'. Refute it at one input. -/
def msgMatchesReferenceWrong : ChangeSpec := { name := "msgMatchesReference", fn := fun _ => fun
  | [d1, d2] => { results := [.lit (.bool false)], args := [d1, d2] }
  | _ => none }
def MsgMatchesReferenceWrongFalsely : Prop := msgMatchesReferenceRow.holds Tryz.pinned (OpenSpec.ofChange msgMatchesReferenceWrong)

/-- 'downspoutlaw05.MsgFree': WHATEVER THE INPUT: true; the input reads as it did. -/
def msgFreeSpec : ChangeSpec := { name := "msgFree", fn := fun _ => fun
  | [d1, d2] => { results := [.lit (.bool true)], args := [d1, d2] }
  | _ => none }
def msgFreeRow : OpenClaim := { program := "ytknfflpgemghmaagreat", sum := "69e970f356ba8c17e8dbcd2d18278a2622178de276f059d2bb0daf1a9ba54e8f", func := "downspout/downspoutlaw05.MsgFree", spec := "msgFree", unfollowed := true, recurses := true, apart := false }
def MsgFreeSaid : Prop := msgFreeRow.holds Tryz.pinned (OpenSpec.ofChange msgFreeSpec)

/-- ITS FALSE NEIGHBOUR: 'it returns false'. Refute it at one input. -/
def msgFreeWrong : ChangeSpec := { name := "msgFree", fn := fun _ => fun
  | [d1, d2] => { results := [.lit (.bool false)], args := [d1, d2] }
  | _ => none }
def MsgFreeWrongFalsely : Prop := msgFreeRow.holds Tryz.pinned (OpenSpec.ofChange msgFreeWrong)

/-- 'downspoutlaw05.MsgMoves': WHATEVER THE INPUT: true; the input reads as it did. -/
def msgMovesSpec : ChangeSpec := { name := "msgMoves", fn := fun _ => fun
  | [d1, d2] => { results := [.lit (.bool true)], args := [d1, d2] }
  | _ => none }
def msgMovesRow : OpenClaim := { program := "ytknfflpgemghmaagreat", sum := "69e970f356ba8c17e8dbcd2d18278a2622178de276f059d2bb0daf1a9ba54e8f", func := "downspout/downspoutlaw05.MsgMoves", spec := "msgMoves", unfollowed := true, recurses := true, apart := false }
def MsgMovesSaid : Prop := msgMovesRow.holds Tryz.pinned (OpenSpec.ofChange msgMovesSpec)

/-- ITS FALSE NEIGHBOUR: 'it returns false'. Refute it at one input. -/
def msgMovesWrong : ChangeSpec := { name := "msgMoves", fn := fun _ => fun
  | [d1, d2] => { results := [.lit (.bool false)], args := [d1, d2] }
  | _ => none }
def MsgMovesWrongFalsely : Prop := msgMovesRow.holds Tryz.pinned (OpenSpec.ofChange msgMovesWrong)

/-- 'downspoutlaw05.MsgTwice': WHATEVER THE INPUT: true; the input reads as it did. -/
def msgTwiceSpec : ChangeSpec := { name := "msgTwice", fn := fun _ => fun
  | [d1, d2] => { results := [.lit (.bool true)], args := [d1, d2] }
  | _ => none }
def msgTwiceRow : OpenClaim := { program := "ytknfflpgemghmaagreat", sum := "69e970f356ba8c17e8dbcd2d18278a2622178de276f059d2bb0daf1a9ba54e8f", func := "downspout/downspoutlaw05.MsgTwice", spec := "msgTwice", unfollowed := true, recurses := true, apart := false }
def MsgTwiceSaid : Prop := msgTwiceRow.holds Tryz.pinned (OpenSpec.ofChange msgTwiceSpec)

/-- ITS FALSE NEIGHBOUR: 'it returns false'. Refute it at one input. -/
def msgTwiceWrong : ChangeSpec := { name := "msgTwice", fn := fun _ => fun
  | [d1, d2] => { results := [.lit (.bool false)], args := [d1, d2] }
  | _ => none }
def MsgTwiceWrongFalsely : Prop := msgTwiceRow.holds Tryz.pinned (OpenSpec.ofChange msgTwiceWrong)

/- THE SECOND FORM. 'bulk': how many values and letters a reading holds, each counted each time it is reached (what is shared counts as often as it is met; a slice's spare places count too). A statement '..UptoSaid' is the law's where the arguments, and the package variables that the reading takes, are together of bulk at most 1048576: NARROWER than '..Said'. Prove '..Said' where nothing that the law and all that it calls make is longer than what came in: it says more and counts as full. Else prove '..UptoSaid'. A law counts once. -/
mutual
def uptoBulk {H : Type} : DataW H → Nat
  | .lit (.string bytes) => bytes.length + 1
  | .lit _ => 1
  | .nil => 1
  | .ptr d => uptoBulk d + 1
  | .slice elems spare => uptoBulkAll elems + uptoBulkAll spare + 1
  | .agg parts => uptoBulkAll parts + 1
  | .iface _ d => uptoBulk d + 1
  | .map entries => uptoBulkEntries entries + 1
  | .held _ => 1
def uptoBulkAll {H : Type} : List (DataW H) → Nat
  | [] => 0
  | d :: r => uptoBulk d + uptoBulkAll r
def uptoBulkEntries {H : Type} : List (Lit × DataW H) → Nat
  | [] => 0
  | x :: r => uptoBulkEntry x + uptoBulkEntries r
def uptoBulkEntry {H : Type} : Lit × DataW H → Nat
  | (.string bytes, d) => bytes.length + uptoBulk d + 1
  | (_, d) => uptoBulk d + 1
 end
def uptoSmall : (H : Type) → List (DataW H) → Bool := fun _ ds => decide (uptoBulkAll ds ≤ 1048576)
def OpenSpec.upto (s : _root_.Go.ChangeSpec) : _root_.Go.OpenSpec := { _root_.Go.OpenSpec.ofChange s with cond := some uptoSmall }

/-- 'downspoutlaw05.MsgValid', WHERE WHAT IT READS IS OF BULK AT MOST 1048576: true; the input reads as it did. -/
def msgValidUptoRow : OpenClaim := { program := "ytknfflpgemghmaagreat", sum := "69e970f356ba8c17e8dbcd2d18278a2622178de276f059d2bb0daf1a9ba54e8f", func := "downspout/downspoutlaw05.MsgValid", spec := "msgValid", unfollowed := true, recurses := true, apart := false, narrowed := true }
def MsgValidUptoSaid : Prop := msgValidUptoRow.holds Tryz.pinned (OpenSpec.upto msgValidSpec)

/-- 'downspoutlaw05.MsgOutside', WHERE WHAT IT READS IS OF BULK AT MOST 1048576: true; the input reads as it did. -/
def msgOutsideUptoRow : OpenClaim := { program := "ytknfflpgemghmaagreat", sum := "69e970f356ba8c17e8dbcd2d18278a2622178de276f059d2bb0daf1a9ba54e8f", func := "downspout/downspoutlaw05.MsgOutside", spec := "msgOutside", unfollowed := true, recurses := true, apart := false, narrowed := true }
def MsgOutsideUptoSaid : Prop := msgOutsideUptoRow.holds Tryz.pinned (OpenSpec.upto msgOutsideSpec)

/-- 'downspoutlaw05.MsgReads', WHERE WHAT IT READS IS OF BULK AT MOST 1048576: true; the input reads as it did. -/
def msgReadsUptoRow : OpenClaim := { program := "ytknfflpgemghmaagreat", sum := "69e970f356ba8c17e8dbcd2d18278a2622178de276f059d2bb0daf1a9ba54e8f", func := "downspout/downspoutlaw05.MsgReads", spec := "msgReads", unfollowed := true, recurses := true, apart := false, narrowed := true }
def MsgReadsUptoSaid : Prop := msgReadsUptoRow.holds Tryz.pinned (OpenSpec.upto msgReadsSpec)

/-- 'downspoutlaw05.MsgBytes', WHERE WHAT IT READS IS OF BULK AT MOST 1048576: true; the input reads as it did. -/
def msgBytesUptoRow : OpenClaim := { program := "ytknfflpgemghmaagreat", sum := "69e970f356ba8c17e8dbcd2d18278a2622178de276f059d2bb0daf1a9ba54e8f", func := "downspout/downspoutlaw05.MsgBytes", spec := "msgBytes", unfollowed := true, recurses := true, apart := false, narrowed := true }
def MsgBytesUptoSaid : Prop := msgBytesUptoRow.holds Tryz.pinned (OpenSpec.upto msgBytesSpec)

/-- 'downspoutlaw05.MsgParses', WHERE WHAT IT READS IS OF BULK AT MOST 1048576: true; the input reads as it did. -/
def msgParsesUptoRow : OpenClaim := { program := "ytknfflpgemghmaagreat", sum := "69e970f356ba8c17e8dbcd2d18278a2622178de276f059d2bb0daf1a9ba54e8f", func := "downspout/downspoutlaw05.MsgParses", spec := "msgParses", unfollowed := true, recurses := true, apart := false, narrowed := true }
def MsgParsesUptoSaid : Prop := msgParsesUptoRow.holds Tryz.pinned (OpenSpec.upto msgParsesSpec)

/-- 'downspoutlaw05.MsgMatchesReference', WHERE WHAT IT READS IS OF BULK AT MOST 1048576: true; the input reads as it did. -/
def msgMatchesReferenceUptoRow : OpenClaim := { program := "ytknfflpgemghmaagreat", sum := "69e970f356ba8c17e8dbcd2d18278a2622178de276f059d2bb0daf1a9ba54e8f", func := "downspout/downspoutlaw05.MsgMatchesReference", spec := "msgMatchesReference", unfollowed := true, recurses := true, apart := false, narrowed := true }
def MsgMatchesReferenceUptoSaid : Prop := msgMatchesReferenceUptoRow.holds Tryz.pinned (OpenSpec.upto msgMatchesReferenceSpec)

/-- 'downspoutlaw05.MsgFree', WHERE WHAT IT READS IS OF BULK AT MOST 1048576: true; the input reads as it did. -/
def msgFreeUptoRow : OpenClaim := { program := "ytknfflpgemghmaagreat", sum := "69e970f356ba8c17e8dbcd2d18278a2622178de276f059d2bb0daf1a9ba54e8f", func := "downspout/downspoutlaw05.MsgFree", spec := "msgFree", unfollowed := true, recurses := true, apart := false, narrowed := true }
def MsgFreeUptoSaid : Prop := msgFreeUptoRow.holds Tryz.pinned (OpenSpec.upto msgFreeSpec)

/-- 'downspoutlaw05.MsgMoves', WHERE WHAT IT READS IS OF BULK AT MOST 1048576: true; the input reads as it did. -/
def msgMovesUptoRow : OpenClaim := { program := "ytknfflpgemghmaagreat", sum := "69e970f356ba8c17e8dbcd2d18278a2622178de276f059d2bb0daf1a9ba54e8f", func := "downspout/downspoutlaw05.MsgMoves", spec := "msgMoves", unfollowed := true, recurses := true, apart := false, narrowed := true }
def MsgMovesUptoSaid : Prop := msgMovesUptoRow.holds Tryz.pinned (OpenSpec.upto msgMovesSpec)

/-- 'downspoutlaw05.MsgTwice', WHERE WHAT IT READS IS OF BULK AT MOST 1048576: true; the input reads as it did. -/
def msgTwiceUptoRow : OpenClaim := { program := "ytknfflpgemghmaagreat", sum := "69e970f356ba8c17e8dbcd2d18278a2622178de276f059d2bb0daf1a9ba54e8f", func := "downspout/downspoutlaw05.MsgTwice", spec := "msgTwice", unfollowed := true, recurses := true, apart := false, narrowed := true }
def MsgTwiceUptoSaid : Prop := msgTwiceUptoRow.holds Tryz.pinned (OpenSpec.upto msgTwiceSpec)

end Rows
end Go.Proofs.YtknfflpgemghmaaGreat
