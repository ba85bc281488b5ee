/-
  No cell of these rows narrows 'for every input' (looked for: loops, veiled, ifaces, maps, wideKeys, modest, calm, conditions, laid).
  DERIVED. THE GIVEN ROWS OF THIS SEAT. 8 by the template 'for every input the law returns true; each argument reads behind the call as it read before'; 0 by the template 'total and deterministic' (their statements: YtljffhpbdmkplaaGreatTotals.lean).
  GIVEN WITH THE SEED: the statements are not yours to turn. If you find one false, say at which input.
  Laid BY PROGRAM, IN A SANDBOX (cutbox-rows.mjs): the forced cells as the released guide's own fill.sh prints them over the translation d454bf72deaf97fd… (all of the seat's roots in one cut). By AI agents, Wed Nov 11 2026. No macro, syntax, notation, axiom, sorry.
-/
import Derived.Test.YtljffhpbdmkplaaGreatChecked
import GoSem.Claim
import GoSem.ClaimJoined
import GoSem.ClaimMapViews
import Derived.JoinedTies
import Derived.KernelRfl
namespace Go.Proofs.YtljffhpbdmkplaaGreat
/- THE CELL 'sum', in the pinned program and in every row, IS THE sha256 OF THE DUMP (.gsa) THAT YtljffhpbdmkplaaGreatProg.lean LOADS. Nothing in Lean hashes anything: it is a label: what it is worth is what the hold of that sum in a sandbox is worth. -/
noncomputable def Tryz.pinned : Pinned := { name := "ytljffhpbdmkplaagreat", sum := "d454bf72deaf97fd36d6689507248be901e9a53a390ea301079159b85242536a", checked := Tryz.checked }
namespace Rows
def none {H : Type} : Left H := { results := [], args := [] }

/-- 'downspoutlaw28.ScrubMatchesReference': WHATEVER THE INPUT: true; the input reads as it did. -/
def scrubMatchesReferenceSpec : ChangeSpec := { name := "scrubMatchesReference", fn := fun _ => fun
  | [d1, d2, d3] => { results := [.lit (.bool true)], args := [d1, d2, d3] }
  | _ => none }
def scrubMatchesReferenceRow : OpenClaim := { program := "ytljffhpbdmkplaagreat", sum := "d454bf72deaf97fd36d6689507248be901e9a53a390ea301079159b85242536a", func := "downspout/downspoutlaw28.ScrubMatchesReference", spec := "scrubMatchesReference", unfollowed := true, recurses := true, apart := false }
def ScrubMatchesReferenceSaid : Prop := scrubMatchesReferenceRow.holds Tryz.pinned (OpenSpec.ofChange scrubMatchesReferenceSpec)

/-- ITS FALSE NEIGHBOUR: 'it returns false'. Refute it at one input. -/
def scrubMatchesReferenceWrong : ChangeSpec := { name := "scrubMatchesReference", fn := fun _ => fun
  | [d1, d2, d3] => { results := [.lit (.bool false)], args := [d1, d2, d3] }
  | _ => none }
def ScrubMatchesReferenceWrongFalsely : Prop := scrubMatchesReferenceRow.holds Tryz.pinned (OpenSpec.ofChange scrubMatchesReferenceWrong)

/-- 'downspoutlaw28.ScrubWalks': WHATEVER THE INPUT: true; the input reads as it did. -/
def scrubWalksSpec : ChangeSpec := { name := "scrubWalks", fn := fun _ => fun
  | [d1, d2] => { results := [.lit (.bool true)], args := [d1, d2] }
  | _ => none }
def scrubWalksRow : OpenClaim := { program := "ytljffhpbdmkplaagreat", sum := "d454bf72deaf97fd36d6689507248be901e9a53a390ea301079159b85242536a", func := "downspout/downspoutlaw28.ScrubWalks", spec := "scrubWalks", unfollowed := true, recurses := true, apart := false }
def ScrubWalksSaid : Prop := scrubWalksRow.holds Tryz.pinned (OpenSpec.ofChange scrubWalksSpec)

/-- ITS FALSE NEIGHBOUR: 'it returns false'. Refute it at one input. -/
def scrubWalksWrong : ChangeSpec := { name := "scrubWalks", fn := fun _ => fun
  | [d1, d2] => { results := [.lit (.bool false)], args := [d1, d2] }
  | _ => none }
def ScrubWalksWrongFalsely : Prop := scrubWalksRow.holds Tryz.pinned (OpenSpec.ofChange scrubWalksWrong)

/-- 'downspoutlaw28.ScrubSteps': WHATEVER THE INPUT: true; the input reads as it did. -/
def scrubStepsSpec : ChangeSpec := { name := "scrubSteps", fn := fun _ => fun
  | [d1, d2, d3] => { results := [.lit (.bool true)], args := [d1, d2, d3] }
  | _ => none }
def scrubStepsRow : OpenClaim := { program := "ytljffhpbdmkplaagreat", sum := "d454bf72deaf97fd36d6689507248be901e9a53a390ea301079159b85242536a", func := "downspout/downspoutlaw28.ScrubSteps", spec := "scrubSteps", unfollowed := true, recurses := true, apart := false }
def ScrubStepsSaid : Prop := scrubStepsRow.holds Tryz.pinned (OpenSpec.ofChange scrubStepsSpec)

/-- ITS FALSE NEIGHBOUR: 'it returns false'. Refute it at one input. -/
def scrubStepsWrong : ChangeSpec := { name := "scrubSteps", fn := fun _ => fun
  | [d1, d2, d3] => { results := [.lit (.bool false)], args := [d1, d2, d3] }
  | _ => none }
def ScrubStepsWrongFalsely : Prop := scrubStepsRow.holds Tryz.pinned (OpenSpec.ofChange scrubStepsWrong)

/-- 'downspoutlaw28.ScrubRefuses': WHATEVER THE INPUT: true; the input reads as it did. -/
def scrubRefusesSpec : ChangeSpec := { name := "scrubRefuses", fn := fun _ => fun
  | [d1, d2] => { results := [.lit (.bool true)], args := [d1, d2] }
  | _ => none }
def scrubRefusesRow : OpenClaim := { program := "ytljffhpbdmkplaagreat", sum := "d454bf72deaf97fd36d6689507248be901e9a53a390ea301079159b85242536a", func := "downspout/downspoutlaw28.ScrubRefuses", spec := "scrubRefuses", unfollowed := true, recurses := true, apart := false }
def ScrubRefusesSaid : Prop := scrubRefusesRow.holds Tryz.pinned (OpenSpec.ofChange scrubRefusesSpec)

/-- ITS FALSE NEIGHBOUR: 'it returns false'. Refute it at one input. -/
def scrubRefusesWrong : ChangeSpec := { name := "scrubRefuses", fn := fun _ => fun
  | [d1, d2] => { results := [.lit (.bool false)], args := [d1, d2] }
  | _ => none }
def ScrubRefusesWrongFalsely : Prop := scrubRefusesRow.holds Tryz.pinned (OpenSpec.ofChange scrubRefusesWrong)

/-- 'downspoutlaw28.ScrubRot': WHATEVER THE INPUT: true; the input reads as it did. -/
def scrubRotSpec : ChangeSpec := { name := "scrubRot", fn := fun _ => fun
  | [d1, d2] => { results := [.lit (.bool true)], args := [d1, d2] }
  | _ => none }
def scrubRotRow : OpenClaim := { program := "ytljffhpbdmkplaagreat", sum := "d454bf72deaf97fd36d6689507248be901e9a53a390ea301079159b85242536a", func := "downspout/downspoutlaw28.ScrubRot", spec := "scrubRot", unfollowed := true, recurses := true, apart := false }
def ScrubRotSaid : Prop := scrubRotRow.holds Tryz.pinned (OpenSpec.ofChange scrubRotSpec)

/-- ITS FALSE NEIGHBOUR: 'it returns false'. Refute it at one input. -/
def scrubRotWrong : ChangeSpec := { name := "scrubRot", fn := fun _ => fun
  | [d1, d2] => { results := [.lit (.bool false)], args := [d1, d2] }
  | _ => none }
def ScrubRotWrongFalsely : Prop := scrubRotRow.holds Tryz.pinned (OpenSpec.ofChange scrubRotWrong)

/-- 'downspoutlaw28.ScrubUsed': WHATEVER THE INPUT: true; the input reads as it did. -/
def scrubUsedSpec : ChangeSpec := { name := "scrubUsed", fn := fun _ => fun
  | [d1, d2, d3] => { results := [.lit (.bool true)], args := [d1, d2, d3] }
  | _ => none }
def scrubUsedRow : OpenClaim := { program := "ytljffhpbdmkplaagreat", sum := "d454bf72deaf97fd36d6689507248be901e9a53a390ea301079159b85242536a", func := "downspout/downspoutlaw28.ScrubUsed", spec := "scrubUsed", unfollowed := true, recurses := true, apart := false }
def ScrubUsedSaid : Prop := scrubUsedRow.holds Tryz.pinned (OpenSpec.ofChange scrubUsedSpec)

/-- ITS FALSE NEIGHBOUR: 'it returns false'. Refute it at one input. -/
def scrubUsedWrong : ChangeSpec := { name := "scrubUsed", fn := fun _ => fun
  | [d1, d2, d3] => { results := [.lit (.bool false)], args := [d1, d2, d3] }
  | _ => none }
def ScrubUsedWrongFalsely : Prop := scrubUsedRow.holds Tryz.pinned (OpenSpec.ofChange scrubUsedWrong)

/-- 'downspoutlaw28.ScrubQuiet': WHATEVER THE INPUT: true; the input reads as it did. -/
def scrubQuietSpec : ChangeSpec := { name := "scrubQuiet", fn := fun _ => fun
  | [d] => { results := [.lit (.bool true)], args := [d] }
  | _ => none }
def scrubQuietRow : OpenClaim := { program := "ytljffhpbdmkplaagreat", sum := "d454bf72deaf97fd36d6689507248be901e9a53a390ea301079159b85242536a", func := "downspout/downspoutlaw28.ScrubQuiet", spec := "scrubQuiet", unfollowed := true, recurses := true, apart := false }
def ScrubQuietSaid : Prop := scrubQuietRow.holds Tryz.pinned (OpenSpec.ofChange scrubQuietSpec)

/-- ITS FALSE NEIGHBOUR: 'it returns false'. Refute it at one input. -/
def scrubQuietWrong : ChangeSpec := { name := "scrubQuiet", fn := fun _ => fun
  | [d] => { results := [.lit (.bool false)], args := [d] }
  | _ => none }
def ScrubQuietWrongFalsely : Prop := scrubQuietRow.holds Tryz.pinned (OpenSpec.ofChange scrubQuietWrong)

/-- 'downspoutlaw28.ScrubLoads': WHATEVER THE INPUT: true; the input reads as it did. -/
def scrubLoadsSpec : ChangeSpec := { name := "scrubLoads", fn := fun _ => fun
  | [d1, d2] => { results := [.lit (.bool true)], args := [d1, d2] }
  | _ => none }
def scrubLoadsRow : OpenClaim := { program := "ytljffhpbdmkplaagreat", sum := "d454bf72deaf97fd36d6689507248be901e9a53a390ea301079159b85242536a", func := "downspout/downspoutlaw28.ScrubLoads", spec := "scrubLoads", unfollowed := true, recurses := true, apart := false }
def ScrubLoadsSaid : Prop := scrubLoadsRow.holds Tryz.pinned (OpenSpec.ofChange scrubLoadsSpec)

/-- ITS FALSE NEIGHBOUR: 'it returns false'. Refute it at one input. -/
def scrubLoadsWrong : ChangeSpec := { name := "scrubLoads", fn := fun _ => fun
  | [d1, d2] => { results := [.lit (.bool false)], args := [d1, d2] }
  | _ => none }
def ScrubLoadsWrongFalsely : Prop := scrubLoadsRow.holds Tryz.pinned (OpenSpec.ofChange scrubLoadsWrong)

/- THE SECOND FORM. 'bulk': how many values and letters a reading holds, each counted each time it is reached (what is shared counts as often as it is met; a slice's spare places count too). A statement '..UptoSaid' is the law's where the arguments, and the package variables that the reading takes, are together of bulk at most 1048576: NARROWER than '..Said'. Prove '..Said' where nothing that the law and all that it calls make is longer than what came in: it says more and counts as full. Else prove '..UptoSaid'. A law counts once. -/
mutual
def uptoBulk {H : Type} : DataW H → Nat
  | .lit (.string bytes) => bytes.length + 1
  | .lit _ => 1
  | .nil => 1
  | .ptr d => uptoBulk d + 1
  | .slice elems spare => uptoBulkAll elems + uptoBulkAll spare + 1
  | .agg parts => uptoBulkAll parts + 1
  | .iface _ d => uptoBulk d + 1
  | .map entries => uptoBulkEntries entries + 1
  | .held _ => 1
def uptoBulkAll {H : Type} : List (DataW H) → Nat
  | [] => 0
  | d :: r => uptoBulk d + uptoBulkAll r
def uptoBulkEntries {H : Type} : List (Lit × DataW H) → Nat
  | [] => 0
  | x :: r => uptoBulkEntry x + uptoBulkEntries r
def uptoBulkEntry {H : Type} : Lit × DataW H → Nat
  | (.string bytes, d) => bytes.length + uptoBulk d + 1
  | (_, d) => uptoBulk d + 1
 end
def uptoSmall : (H : Type) → List (DataW H) → Bool := fun _ ds => decide (uptoBulkAll ds ≤ 1048576)
def OpenSpec.upto (s : _root_.Go.ChangeSpec) : _root_.Go.OpenSpec := { _root_.Go.OpenSpec.ofChange s with cond := some uptoSmall }

/-- 'downspoutlaw28.ScrubMatchesReference', WHERE WHAT IT READS IS OF BULK AT MOST 1048576: true; the input reads as it did. -/
def scrubMatchesReferenceUptoRow : OpenClaim := { program := "ytljffhpbdmkplaagreat", sum := "d454bf72deaf97fd36d6689507248be901e9a53a390ea301079159b85242536a", func := "downspout/downspoutlaw28.ScrubMatchesReference", spec := "scrubMatchesReference", unfollowed := true, recurses := true, apart := false, narrowed := true }
def ScrubMatchesReferenceUptoSaid : Prop := scrubMatchesReferenceUptoRow.holds Tryz.pinned (OpenSpec.upto scrubMatchesReferenceSpec)

/-- 'downspoutlaw28.ScrubWalks', WHERE WHAT IT READS IS OF BULK AT MOST 1048576: true; the input reads as it did. -/
def scrubWalksUptoRow : OpenClaim := { program := "ytljffhpbdmkplaagreat", sum := "d454bf72deaf97fd36d6689507248be901e9a53a390ea301079159b85242536a", func := "downspout/downspoutlaw28.ScrubWalks", spec := "scrubWalks", unfollowed := true, recurses := true, apart := false, narrowed := true }
def ScrubWalksUptoSaid : Prop := scrubWalksUptoRow.holds Tryz.pinned (OpenSpec.upto scrubWalksSpec)

/-- 'downspoutlaw28.ScrubSteps', WHERE WHAT IT READS IS OF BULK AT MOST 1048576: true; the input reads as it did. -/
def scrubStepsUptoRow : OpenClaim := { program := "ytljffhpbdmkplaagreat", sum := "d454bf72deaf97fd36d6689507248be901e9a53a390ea301079159b85242536a", func := "downspout/downspoutlaw28.ScrubSteps", spec := "scrubSteps", unfollowed := true, recurses := true, apart := false, narrowed := true }
def ScrubStepsUptoSaid : Prop := scrubStepsUptoRow.holds Tryz.pinned (OpenSpec.upto scrubStepsSpec)

/-- 'downspoutlaw28.ScrubRefuses', WHERE WHAT IT READS IS OF BULK AT MOST 1048576: true; the input reads as it did. -/
def scrubRefusesUptoRow : OpenClaim := { program := "ytljffhpbdmkplaagreat", sum := "d454bf72deaf97fd36d6689507248be901e9a53a390ea301079159b85242536a", func := "downspout/downspoutlaw28.ScrubRefuses", spec := "scrubRefuses", unfollowed := true, recurses := true, apart := false, narrowed := true }
def ScrubRefusesUptoSaid : Prop := scrubRefusesUptoRow.holds Tryz.pinned (OpenSpec.upto scrubRefusesSpec)

/-- 'downspoutlaw28.ScrubRot', WHERE WHAT IT READS IS OF BULK AT MOST 1048576: true; the input reads as it did. -/
def scrubRotUptoRow : OpenClaim := { program := "ytljffhpbdmkplaagreat", sum := "d454bf72deaf97fd36d6689507248be901e9a53a390ea301079159b85242536a", func := "downspout/downspoutlaw28.ScrubRot", spec := "scrubRot", unfollowed := true, recurses := true, apart := false, narrowed := true }
def ScrubRotUptoSaid : Prop := scrubRotUptoRow.holds Tryz.pinned (OpenSpec.upto scrubRotSpec)

/-- 'downspoutlaw28.ScrubUsed', WHERE WHAT IT READS IS OF BULK AT MOST 1048576: true; the input reads as it did. -/
def scrubUsedUptoRow : OpenClaim := { program := "ytljffhpbdmkplaagreat", sum := "d454bf72deaf97fd36d6689507248be901e9a53a390ea301079159b85242536a", func := "downspout/downspoutlaw28.ScrubUsed", spec := "scrubUsed", unfollowed := true, recurses := true, apart := false, narrowed := true }
def ScrubUsedUptoSaid : Prop := scrubUsedUptoRow.holds Tryz.pinned (OpenSpec.upto scrubUsedSpec)

/-- 'downspoutlaw28.ScrubQuiet', WHERE WHAT IT READS IS OF BULK AT MOST 1048576: true; the input reads as it did. -/
def scrubQuietUptoRow : OpenClaim := { program := "ytljffhpbdmkplaagreat", sum := "d454bf72deaf97fd36d6689507248be901e9a53a390ea301079159b85242536a", func := "downspout/downspoutlaw28.ScrubQuiet", spec := "scrubQuiet", unfollowed := true, recurses := true, apart := false, narrowed := true }
def ScrubQuietUptoSaid : Prop := scrubQuietUptoRow.holds Tryz.pinned (OpenSpec.upto scrubQuietSpec)

/-- 'downspoutlaw28.ScrubLoads', WHERE WHAT IT READS IS OF BULK AT MOST 1048576: true; the input reads as it did. -/
def scrubLoadsUptoRow : OpenClaim := { program := "ytljffhpbdmkplaagreat", sum := "d454bf72deaf97fd36d6689507248be901e9a53a390ea301079159b85242536a", func := "downspout/downspoutlaw28.ScrubLoads", spec := "scrubLoads", unfollowed := true, recurses := true, apart := false, narrowed := true }
def ScrubLoadsUptoSaid : Prop := scrubLoadsUptoRow.holds Tryz.pinned (OpenSpec.upto scrubLoadsSpec)

end Rows
end Go.Proofs.YtljffhpbdmkplaaGreat
