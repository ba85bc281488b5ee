/-
  No cell of these rows narrows 'for every input' (looked for: loops, veiled, ifaces, maps, wideKeys, modest, calm, conditions, laid).
  DERIVED. THE GIVEN ROWS OF THIS SEAT. 3 by the template 'for every input the law returns true; each argument reads behind the call as it read before'; 0 by the template 'total and deterministic' (their statements: YtfecapegkdpbhaaTotals.lean).
  GIVEN WITH THE SEED: the statements are not yours to turn. If you find one false, say at which input.
  Laid BY PROGRAM, IN A SANDBOX (cutbox-rows.mjs): the forced cells as the released guide's own fill.sh prints them over the translation eaa92bea3f4ef30a… (all of the seat's roots in one cut). By AI agents, Wed Nov 11 2026. No macro, syntax, notation, axiom, sorry.
-/
import Derived.Test.YtfecapegkdpbhaaChecked
import GoSem.Claim
import GoSem.ClaimJoined
import GoSem.ClaimMapViews
import Derived.JoinedTies
import Derived.KernelRfl
namespace Go.Proofs.Ytfecapegkdpbhaa
/- THE CELL 'sum', in the pinned program and in every row, IS THE sha256 OF THE DUMP (.gsa) THAT YtfecapegkdpbhaaProg.lean LOADS. Nothing in Lean hashes anything: it is a label: what it is worth is what the hold of that sum in a sandbox is worth. -/
noncomputable def Try.pinned : Pinned := { name := "ytfecapegkdpbhaa", sum := "eaa92bea3f4ef30a158eda61c39fd1cdb780807ccb617b2ac13ab0791aa003d5", checked := Try.checked }
namespace Rows
def none {H : Type} : Left H := { results := [], args := [] }

/-- 'downspoutlaw09.SettleCrosses': WHATEVER THE INPUT: true; the input reads as it did. -/
def settleCrossesSpec : ChangeSpec := { name := "settleCrosses", fn := fun _ => fun
  | [d1, d2, d3] => { results := [.lit (.bool true)], args := [d1, d2, d3] }
  | _ => none }
def settleCrossesRow : OpenClaim := { program := "ytfecapegkdpbhaa", sum := "eaa92bea3f4ef30a158eda61c39fd1cdb780807ccb617b2ac13ab0791aa003d5", func := "downspout/downspoutlaw09.SettleCrosses", spec := "settleCrosses", unfollowed := true, recurses := true, apart := false }
def SettleCrossesSaid : Prop := settleCrossesRow.holds Try.pinned (OpenSpec.ofChange settleCrossesSpec)

/-- ITS FALSE NEIGHBOUR: 'it returns false'. Refute it at one input. -/
def settleCrossesWrong : ChangeSpec := { name := "settleCrosses", fn := fun _ => fun
  | [d1, d2, d3] => { results := [.lit (.bool false)], args := [d1, d2, d3] }
  | _ => none }
def SettleCrossesWrongFalsely : Prop := settleCrossesRow.holds Try.pinned (OpenSpec.ofChange settleCrossesWrong)

/-- 'downspoutlaw09.SettleFirst': WHATEVER THE INPUT: true; the input reads as it did. -/
def settleFirstSpec : ChangeSpec := { name := "settleFirst", fn := fun _ => fun
  | [d1, d2] => { results := [.lit (.bool true)], args := [d1, d2] }
  | _ => none }
def settleFirstRow : OpenClaim := { program := "ytfecapegkdpbhaa", sum := "eaa92bea3f4ef30a158eda61c39fd1cdb780807ccb617b2ac13ab0791aa003d5", func := "downspout/downspoutlaw09.SettleFirst", spec := "settleFirst", unfollowed := true, recurses := true, apart := false }
def SettleFirstSaid : Prop := settleFirstRow.holds Try.pinned (OpenSpec.ofChange settleFirstSpec)

/-- ITS FALSE NEIGHBOUR: 'it returns false'. Refute it at one input. -/
def settleFirstWrong : ChangeSpec := { name := "settleFirst", fn := fun _ => fun
  | [d1, d2] => { results := [.lit (.bool false)], args := [d1, d2] }
  | _ => none }
def SettleFirstWrongFalsely : Prop := settleFirstRow.holds Try.pinned (OpenSpec.ofChange settleFirstWrong)

/-- 'downspoutlaw09.SettleCounts': WHATEVER THE INPUT: true; the input reads as it did. -/
def settleCountsSpec : ChangeSpec := { name := "settleCounts", fn := fun _ => fun
  | [d1, d2] => { results := [.lit (.bool true)], args := [d1, d2] }
  | _ => none }
def settleCountsRow : OpenClaim := { program := "ytfecapegkdpbhaa", sum := "eaa92bea3f4ef30a158eda61c39fd1cdb780807ccb617b2ac13ab0791aa003d5", func := "downspout/downspoutlaw09.SettleCounts", spec := "settleCounts", unfollowed := true, recurses := true, apart := false }
def SettleCountsSaid : Prop := settleCountsRow.holds Try.pinned (OpenSpec.ofChange settleCountsSpec)

/-- ITS FALSE NEIGHBOUR: 'it returns false'. Refute it at one input. -/
def settleCountsWrong : ChangeSpec := { name := "settleCounts", fn := fun _ => fun
  | [d1, d2] => { results := [.lit (.bool false)], args := [d1, d2] }
  | _ => none }
def SettleCountsWrongFalsely : Prop := settleCountsRow.holds Try.pinned (OpenSpec.ofChange settleCountsWrong)

/- THE SECOND FORM. 'bulk': how many values and letters a reading holds, each counted each time it is reached (what is shared counts as often as it is met; a slice's spare places count too). A statement '..UptoSaid' is the law's where the arguments, and the package variables that the reading takes, are together of bulk at most 1048576: NARROWER than '..Said'. Prove '..Said' where nothing that the law and all that it calls make is longer than what came in: it says more and counts as full. Else prove '..UptoSaid'. A law counts once. -/
mutual
def uptoBulk {H : Type} : DataW H → Nat
  | .lit (.string bytes) => bytes.length + 1
  | .lit _ => 1
  | .nil => 1
  | .ptr d => uptoBulk d + 1
  | .slice elems spare => uptoBulkAll elems + uptoBulkAll spare + 1
  | .agg parts => uptoBulkAll parts + 1
  | .iface _ d => uptoBulk d + 1
  | .map entries => uptoBulkEntries entries + 1
  | .held _ => 1
def uptoBulkAll {H : Type} : List (DataW H) → Nat
  | [] => 0
  | d :: r => uptoBulk d + uptoBulkAll r
def uptoBulkEntries {H : Type} : List (Lit × DataW H) → Nat
  | [] => 0
  | x :: r => uptoBulkEntry x + uptoBulkEntries r
def uptoBulkEntry {H : Type} : Lit × DataW H → Nat
  | (.string bytes, d) => bytes.length + uptoBulk d + 1
  | (_, d) => uptoBulk d + 1
 end
def uptoSmall : (H : Type) → List (DataW H) → Bool := fun _ ds => decide (uptoBulkAll ds ≤ 1048576)
def OpenSpec.upto (s : _root_.Go.ChangeSpec) : _root_.Go.OpenSpec := { _root_.Go.OpenSpec.ofChange s with cond := some uptoSmall }

/-- 'downspoutlaw09.SettleCrosses', WHERE WHAT IT READS IS OF BULK AT MOST 1048576: true; the input reads as it did. -/
def settleCrossesUptoRow : OpenClaim := { program := "ytfecapegkdpbhaa", sum := "eaa92bea3f4ef30a158eda61c39fd1cdb780807ccb617b2ac13ab0791aa003d5", func := "downspout/downspoutlaw09.SettleCrosses", spec := "settleCrosses", unfollowed := true, recurses := true, apart := false, narrowed := true }
def SettleCrossesUptoSaid : Prop := settleCrossesUptoRow.holds Try.pinned (OpenSpec.upto settleCrossesSpec)

/-- 'downspoutlaw09.SettleFirst', WHERE WHAT IT READS IS OF BULK AT MOST 1048576: true; the input reads as it did. -/
def settleFirstUptoRow : OpenClaim := { program := "ytfecapegkdpbhaa", sum := "eaa92bea3f4ef30a158eda61c39fd1cdb780807ccb617b2ac13ab0791aa003d5", func := "downspout/downspoutlaw09.SettleFirst", spec := "settleFirst", unfollowed := true, recurses := true, apart := false, narrowed := true }
def SettleFirstUptoSaid : Prop := settleFirstUptoRow.holds Try.pinned (OpenSpec.upto settleFirstSpec)

/-- 'downspoutlaw09.SettleCounts', WHERE WHAT IT READS IS OF BULK AT MOST 1048576: true; the input reads as it did. -/
def settleCountsUptoRow : OpenClaim := { program := "ytfecapegkdpbhaa", sum := "eaa92bea3f4ef30a158eda61c39fd1cdb780807ccb617b2ac13ab0791aa003d5", func := "downspout/downspoutlaw09.SettleCounts", spec := "settleCounts", unfollowed := true, recurses := true, apart := false, narrowed := true }
def SettleCountsUptoSaid : Prop := settleCountsUptoRow.holds Try.pinned (OpenSpec.upto settleCountsSpec)

end Rows
end Go.Proofs.Ytfecapegkdpbhaa
