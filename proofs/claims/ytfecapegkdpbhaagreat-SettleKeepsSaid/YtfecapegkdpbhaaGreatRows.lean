/-
  No cell of these rows narrows 'for every input' (looked for: loops, veiled, ifaces, maps, wideKeys, modest, calm, conditions, laid).
  DERIVED. THE GIVEN ROWS OF THIS SEAT. 4 by the template 'for every input the law returns true; each argument reads behind the call as it read before'; 0 by the template 'total and deterministic' (their statements: YtfecapegkdpbhaaGreatTotals.lean).
  GIVEN WITH THE SEED: the statements are not yours to turn. If you find one false, say at which input.
  Laid BY PROGRAM, IN A SANDBOX (cutbox-rows.mjs): the forced cells as the released guide's own fill.sh prints them over the translation 52b172da4ef010d5… (all of the seat's roots in one cut). By AI agents, Wed Nov 11 2026. No macro, syntax, notation, axiom, sorry.
-/
import Derived.Test.YtfecapegkdpbhaaGreatChecked
import GoSem.Claim
import GoSem.ClaimJoined
import GoSem.ClaimMapViews
import Derived.JoinedTies
import Derived.KernelRfl
namespace Go.Proofs.YtfecapegkdpbhaaGreat
/- THE CELL 'sum', in the pinned program and in every row, IS THE sha256 OF THE DUMP (.gsa) THAT YtfecapegkdpbhaaGreatProg.lean LOADS. Nothing in Lean hashes anything: it is a label: what it is worth is what the hold of that sum in a sandbox is worth. -/
noncomputable def Tryz.pinned : Pinned := { name := "ytfecapegkdpbhaagreat", sum := "52b172da4ef010d5e2f2919db16872aa9a63cf4ca8ff46825d6131842d54dc93", checked := Tryz.checked }
namespace Rows
def none {H : Type} : Left H := { results := [], args := [] }

/-- 'downspoutlaw09.SettleMatchesReference': WHATEVER THE INPUT: true; the input reads as it did. -/
def settleMatchesReferenceSpec : ChangeSpec := { name := "settleMatchesReference", fn := fun _ => fun
  | [d1, d2, d3] => { results := [.lit (.bool true)], args := [d1, d2, d3] }
  | _ => none }
def settleMatchesReferenceRow : OpenClaim := { program := "ytfecapegkdpbhaagreat", sum := "52b172da4ef010d5e2f2919db16872aa9a63cf4ca8ff46825d6131842d54dc93", func := "downspout/downspoutlaw09.SettleMatchesReference", spec := "settleMatchesReference", unfollowed := true, recurses := true, apart := false }
def SettleMatchesReferenceSaid : Prop := settleMatchesReferenceRow.holds Tryz.pinned (OpenSpec.ofChange settleMatchesReferenceSpec)

/-- ITS FALSE NEIGHBOUR: 'it returns false'. Refute it at one input. -/
def settleMatchesReferenceWrong : ChangeSpec := { name := "settleMatchesReference", fn := fun _ => fun
  | [d1, d2, d3] => { results := [.lit (.bool false)], args := [d1, d2, d3] }
  | _ => none }
def SettleMatchesReferenceWrongFalsely : Prop := settleMatchesReferenceRow.holds Tryz.pinned (OpenSpec.ofChange settleMatchesReferenceWrong)

/-- 'downspoutlaw09.SettleKeeps': WHATEVER THE INPUT: true; the input reads as it did. -/
def settleKeepsSpec : ChangeSpec := { name := "settleKeeps", fn := fun _ => fun
  | [d1, d2] => { results := [.lit (.bool true)], args := [d1, d2] }
  | _ => none }
def settleKeepsRow : OpenClaim := { program := "ytfecapegkdpbhaagreat", sum := "52b172da4ef010d5e2f2919db16872aa9a63cf4ca8ff46825d6131842d54dc93", func := "downspout/downspoutlaw09.SettleKeeps", spec := "settleKeeps", inPlace := ["internal/bytealg.abigen_runtime_cmpstring"], unfollowed := true, recurses := true, apart := false }
def SettleKeepsSaid : Prop := settleKeepsRow.holds Tryz.pinned (OpenSpec.ofChange settleKeepsSpec)

/-- ITS FALSE NEIGHBOUR: 'it returns false'. Refute it at one input. -/
def settleKeepsWrong : ChangeSpec := { name := "settleKeeps", fn := fun _ => fun
  | [d1, d2] => { results := [.lit (.bool false)], args := [d1, d2] }
  | _ => none }
def SettleKeepsWrongFalsely : Prop := settleKeepsRow.holds Tryz.pinned (OpenSpec.ofChange settleKeepsWrong)

/-- 'downspoutlaw09.SettleTurns': WHATEVER THE INPUT: true; the input reads as it did. -/
def settleTurnsSpec : ChangeSpec := { name := "settleTurns", fn := fun _ => fun
  | [d1, d2] => { results := [.lit (.bool true)], args := [d1, d2] }
  | _ => none }
def settleTurnsRow : OpenClaim := { program := "ytfecapegkdpbhaagreat", sum := "52b172da4ef010d5e2f2919db16872aa9a63cf4ca8ff46825d6131842d54dc93", func := "downspout/downspoutlaw09.SettleTurns", spec := "settleTurns", unfollowed := true, recurses := true, apart := false }
def SettleTurnsSaid : Prop := settleTurnsRow.holds Tryz.pinned (OpenSpec.ofChange settleTurnsSpec)

/-- ITS FALSE NEIGHBOUR: 'it returns false'. Refute it at one input. -/
def settleTurnsWrong : ChangeSpec := { name := "settleTurns", fn := fun _ => fun
  | [d1, d2] => { results := [.lit (.bool false)], args := [d1, d2] }
  | _ => none }
def SettleTurnsWrongFalsely : Prop := settleTurnsRow.holds Tryz.pinned (OpenSpec.ofChange settleTurnsWrong)

/-- 'downspoutlaw09.SettleRepeats': WHATEVER THE INPUT: true; the input reads as it did. -/
def settleRepeatsSpec : ChangeSpec := { name := "settleRepeats", fn := fun _ => fun
  | [d1, d2] => { results := [.lit (.bool true)], args := [d1, d2] }
  | _ => none }
def settleRepeatsRow : OpenClaim := { program := "ytfecapegkdpbhaagreat", sum := "52b172da4ef010d5e2f2919db16872aa9a63cf4ca8ff46825d6131842d54dc93", func := "downspout/downspoutlaw09.SettleRepeats", spec := "settleRepeats", unfollowed := true, recurses := true, apart := false }
def SettleRepeatsSaid : Prop := settleRepeatsRow.holds Tryz.pinned (OpenSpec.ofChange settleRepeatsSpec)

/-- ITS FALSE NEIGHBOUR: 'it returns false'. Refute it at one input. -/
def settleRepeatsWrong : ChangeSpec := { name := "settleRepeats", fn := fun _ => fun
  | [d1, d2] => { results := [.lit (.bool false)], args := [d1, d2] }
  | _ => none }
def SettleRepeatsWrongFalsely : Prop := settleRepeatsRow.holds Tryz.pinned (OpenSpec.ofChange settleRepeatsWrong)

/- THE SECOND FORM. 'bulk': how many values and letters a reading holds, each counted each time it is reached (what is shared counts as often as it is met; a slice's spare places count too). A statement '..UptoSaid' is the law's where the arguments, and the package variables that the reading takes, are together of bulk at most 1048576: NARROWER than '..Said'. Prove '..Said' where nothing that the law and all that it calls make is longer than what came in: it says more and counts as full. Else prove '..UptoSaid'. A law counts once. -/
mutual
def uptoBulk {H : Type} : DataW H → Nat
  | .lit (.string bytes) => bytes.length + 1
  | .lit _ => 1
  | .nil => 1
  | .ptr d => uptoBulk d + 1
  | .slice elems spare => uptoBulkAll elems + uptoBulkAll spare + 1
  | .agg parts => uptoBulkAll parts + 1
  | .iface _ d => uptoBulk d + 1
  | .map entries => uptoBulkEntries entries + 1
  | .held _ => 1
def uptoBulkAll {H : Type} : List (DataW H) → Nat
  | [] => 0
  | d :: r => uptoBulk d + uptoBulkAll r
def uptoBulkEntries {H : Type} : List (Lit × DataW H) → Nat
  | [] => 0
  | x :: r => uptoBulkEntry x + uptoBulkEntries r
def uptoBulkEntry {H : Type} : Lit × DataW H → Nat
  | (.string bytes, d) => bytes.length + uptoBulk d + 1
  | (_, d) => uptoBulk d + 1
 end
def uptoSmall : (H : Type) → List (DataW H) → Bool := fun _ ds => decide (uptoBulkAll ds ≤ 1048576)
def OpenSpec.upto (s : _root_.Go.ChangeSpec) : _root_.Go.OpenSpec := { _root_.Go.OpenSpec.ofChange s with cond := some uptoSmall }

/-- 'downspoutlaw09.SettleMatchesReference', WHERE WHAT IT READS IS OF BULK AT MOST 1048576: true; the input reads as it did. -/
def settleMatchesReferenceUptoRow : OpenClaim := { program := "ytfecapegkdpbhaagreat", sum := "52b172da4ef010d5e2f2919db16872aa9a63cf4ca8ff46825d6131842d54dc93", func := "downspout/downspoutlaw09.SettleMatchesReference", spec := "settleMatchesReference", unfollowed := true, recurses := true, apart := false, narrowed := true }
def SettleMatchesReferenceUptoSaid : Prop := settleMatchesReferenceUptoRow.holds Tryz.pinned (OpenSpec.upto settleMatchesReferenceSpec)

/-- 'downspoutlaw09.SettleKeeps', WHERE WHAT IT READS IS OF BULK AT MOST 1048576: true; the input reads as it did. -/
def settleKeepsUptoRow : OpenClaim := { program := "ytfecapegkdpbhaagreat", sum := "52b172da4ef010d5e2f2919db16872aa9a63cf4ca8ff46825d6131842d54dc93", func := "downspout/downspoutlaw09.SettleKeeps", spec := "settleKeeps", inPlace := ["internal/bytealg.abigen_runtime_cmpstring"], unfollowed := true, recurses := true, apart := false, narrowed := true }
def SettleKeepsUptoSaid : Prop := settleKeepsUptoRow.holds Tryz.pinned (OpenSpec.upto settleKeepsSpec)

/-- 'downspoutlaw09.SettleTurns', WHERE WHAT IT READS IS OF BULK AT MOST 1048576: true; the input reads as it did. -/
def settleTurnsUptoRow : OpenClaim := { program := "ytfecapegkdpbhaagreat", sum := "52b172da4ef010d5e2f2919db16872aa9a63cf4ca8ff46825d6131842d54dc93", func := "downspout/downspoutlaw09.SettleTurns", spec := "settleTurns", unfollowed := true, recurses := true, apart := false, narrowed := true }
def SettleTurnsUptoSaid : Prop := settleTurnsUptoRow.holds Tryz.pinned (OpenSpec.upto settleTurnsSpec)

/-- 'downspoutlaw09.SettleRepeats', WHERE WHAT IT READS IS OF BULK AT MOST 1048576: true; the input reads as it did. -/
def settleRepeatsUptoRow : OpenClaim := { program := "ytfecapegkdpbhaagreat", sum := "52b172da4ef010d5e2f2919db16872aa9a63cf4ca8ff46825d6131842d54dc93", func := "downspout/downspoutlaw09.SettleRepeats", spec := "settleRepeats", unfollowed := true, recurses := true, apart := false, narrowed := true }
def SettleRepeatsUptoSaid : Prop := settleRepeatsUptoRow.holds Tryz.pinned (OpenSpec.upto settleRepeatsSpec)

end Rows
end Go.Proofs.YtfecapegkdpbhaaGreat
