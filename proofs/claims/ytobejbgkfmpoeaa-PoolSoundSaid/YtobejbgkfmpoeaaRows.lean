/-
  No cell of these rows narrows 'for every input' (looked for: loops, veiled, ifaces, maps, wideKeys, modest, calm, conditions, laid).
  DERIVED. THE GIVEN ROWS OF THIS SEAT. 8 by the template 'for every input the law returns true; each argument reads behind the call as it read before'; 0 by the template 'total and deterministic' (their statements: YtobejbgkfmpoeaaTotals.lean).
  GIVEN WITH THE SEED: the statements are not yours to turn. If you find one false, say at which input.
  Laid BY PROGRAM, IN A SANDBOX (cutbox-rows.mjs): the forced cells as the released guide's own fill.sh prints them over the translation 026d8ac8bca960f4… (all of the seat's roots in one cut). By AI agents, Wed Nov 11 2026. No macro, syntax, notation, axiom, sorry.
-/
import Derived.Test.YtobejbgkfmpoeaaChecked
import GoSem.Claim
import GoSem.ClaimJoined
import GoSem.ClaimMapViews
import Derived.JoinedTies
import Derived.KernelRfl
namespace Go.Proofs.Ytobejbgkfmpoeaa
/- THE CELL 'sum', in the pinned program and in every row, IS THE sha256 OF THE DUMP (.gsa) THAT YtobejbgkfmpoeaaProg.lean LOADS. Nothing in Lean hashes anything: it is a label: what it is worth is what the hold of that sum in a sandbox is worth. -/
noncomputable def Try.pinned : Pinned := { name := "ytobejbgkfmpoeaa", sum := "026d8ac8bca960f4781cd6421559c40f3f22a100734aa836f20b322457ec1915", checked := Try.checked }
namespace Rows
def none {H : Type} : Left H := { results := [], args := [] }

/-- 'downspoutlaw11.PoolSound': WHATEVER THE INPUT: true; the input reads as it did. -/
def poolSoundSpec : ChangeSpec := { name := "poolSound", fn := fun _ => fun
  | [d1, d2, d3] => { results := [.lit (.bool true)], args := [d1, d2, d3] }
  | _ => none }
def poolSoundRow : OpenClaim := { program := "ytobejbgkfmpoeaa", sum := "026d8ac8bca960f4781cd6421559c40f3f22a100734aa836f20b322457ec1915", func := "downspout/downspoutlaw11.PoolSound", spec := "poolSound", unfollowed := true, recurses := true, apart := false }
def PoolSoundSaid : Prop := poolSoundRow.holds Try.pinned (OpenSpec.ofChange poolSoundSpec)

/-- ITS FALSE NEIGHBOUR: 'it returns false'. Refute it at one input. -/
def poolSoundWrong : ChangeSpec := { name := "poolSound", fn := fun _ => fun
  | [d1, d2, d3] => { results := [.lit (.bool false)], args := [d1, d2, d3] }
  | _ => none }
def PoolSoundWrongFalsely : Prop := poolSoundRow.holds Try.pinned (OpenSpec.ofChange poolSoundWrong)

/-- 'downspoutlaw11.PoolShares': WHATEVER THE INPUT: true; the input reads as it did. -/
def poolSharesSpec : ChangeSpec := { name := "poolShares", fn := fun _ => fun
  | [d1, d2] => { results := [.lit (.bool true)], args := [d1, d2] }
  | _ => none }
def poolSharesRow : OpenClaim := { program := "ytobejbgkfmpoeaa", sum := "026d8ac8bca960f4781cd6421559c40f3f22a100734aa836f20b322457ec1915", func := "downspout/downspoutlaw11.PoolShares", spec := "poolShares", unfollowed := true, recurses := true, apart := false }
def PoolSharesSaid : Prop := poolSharesRow.holds Try.pinned (OpenSpec.ofChange poolSharesSpec)

/-- ITS FALSE NEIGHBOUR: 'it returns false'. Refute it at one input. -/
def poolSharesWrong : ChangeSpec := { name := "poolShares", fn := fun _ => fun
  | [d1, d2] => { results := [.lit (.bool false)], args := [d1, d2] }
  | _ => none }
def PoolSharesWrongFalsely : Prop := poolSharesRow.holds Try.pinned (OpenSpec.ofChange poolSharesWrong)

/-- 'downspoutlaw11.PoolFrees': WHATEVER THE INPUT: true; the input reads as it did. -/
def poolFreesSpec : ChangeSpec := { name := "poolFrees", fn := fun _ => fun
  | [d1, d2] => { results := [.lit (.bool true)], args := [d1, d2] }
  | _ => none }
def poolFreesRow : OpenClaim := { program := "ytobejbgkfmpoeaa", sum := "026d8ac8bca960f4781cd6421559c40f3f22a100734aa836f20b322457ec1915", func := "downspout/downspoutlaw11.PoolFrees", spec := "poolFrees", unfollowed := true, recurses := true, apart := false }
def PoolFreesSaid : Prop := poolFreesRow.holds Try.pinned (OpenSpec.ofChange poolFreesSpec)

/-- ITS FALSE NEIGHBOUR: 'it returns false'. Refute it at one input. -/
def poolFreesWrong : ChangeSpec := { name := "poolFrees", fn := fun _ => fun
  | [d1, d2] => { results := [.lit (.bool false)], args := [d1, d2] }
  | _ => none }
def PoolFreesWrongFalsely : Prop := poolFreesRow.holds Try.pinned (OpenSpec.ofChange poolFreesWrong)

/-- 'downspoutlaw11.PoolReaches': WHATEVER THE INPUT: true; the input reads as it did. -/
def poolReachesSpec : ChangeSpec := { name := "poolReaches", fn := fun _ => fun
  | [d1, d2] => { results := [.lit (.bool true)], args := [d1, d2] }
  | _ => none }
def poolReachesRow : OpenClaim := { program := "ytobejbgkfmpoeaa", sum := "026d8ac8bca960f4781cd6421559c40f3f22a100734aa836f20b322457ec1915", func := "downspout/downspoutlaw11.PoolReaches", spec := "poolReaches", unfollowed := true, recurses := true, apart := false }
def PoolReachesSaid : Prop := poolReachesRow.holds Try.pinned (OpenSpec.ofChange poolReachesSpec)

/-- ITS FALSE NEIGHBOUR: 'it returns false'. Refute it at one input. -/
def poolReachesWrong : ChangeSpec := { name := "poolReaches", fn := fun _ => fun
  | [d1, d2] => { results := [.lit (.bool false)], args := [d1, d2] }
  | _ => none }
def PoolReachesWrongFalsely : Prop := poolReachesRow.holds Try.pinned (OpenSpec.ofChange poolReachesWrong)

/-- 'downspoutlaw11.PoolMatchesReference': WHATEVER THE INPUT: true; the input reads as it did. -/
def poolMatchesReferenceSpec : ChangeSpec := { name := "poolMatchesReference", fn := fun _ => fun
  | [d1, d2, d3] => { results := [.lit (.bool true)], args := [d1, d2, d3] }
  | _ => none }
def poolMatchesReferenceRow : OpenClaim := { program := "ytobejbgkfmpoeaa", sum := "026d8ac8bca960f4781cd6421559c40f3f22a100734aa836f20b322457ec1915", func := "downspout/downspoutlaw11.PoolMatchesReference", spec := "poolMatchesReference", unfollowed := true, recurses := true, apart := false }
def PoolMatchesReferenceSaid : Prop := poolMatchesReferenceRow.holds Try.pinned (OpenSpec.ofChange poolMatchesReferenceSpec)

/-- ITS FALSE NEIGHBOUR: 'it returns false'. Refute it at one input. -/
def poolMatchesReferenceWrong : ChangeSpec := { name := "poolMatchesReference", fn := fun _ => fun
  | [d1, d2, d3] => { results := [.lit (.bool false)], args := [d1, d2, d3] }
  | _ => none }
def PoolMatchesReferenceWrongFalsely : Prop := poolMatchesReferenceRow.holds Try.pinned (OpenSpec.ofChange poolMatchesReferenceWrong)

/-- 'downspoutlaw11.PoolKeeps': WHATEVER THE INPUT: true; the input reads as it did. -/
def poolKeepsSpec : ChangeSpec := { name := "poolKeeps", fn := fun _ => fun
  | [d] => { results := [.lit (.bool true)], args := [d] }
  | _ => none }
def poolKeepsRow : OpenClaim := { program := "ytobejbgkfmpoeaa", sum := "026d8ac8bca960f4781cd6421559c40f3f22a100734aa836f20b322457ec1915", func := "downspout/downspoutlaw11.PoolKeeps", spec := "poolKeeps", unfollowed := true, recurses := true, apart := false }
def PoolKeepsSaid : Prop := poolKeepsRow.holds Try.pinned (OpenSpec.ofChange poolKeepsSpec)

/-- ITS FALSE NEIGHBOUR: 'it returns false'. Refute it at one input. -/
def poolKeepsWrong : ChangeSpec := { name := "poolKeeps", fn := fun _ => fun
  | [d] => { results := [.lit (.bool false)], args := [d] }
  | _ => none }
def PoolKeepsWrongFalsely : Prop := poolKeepsRow.holds Try.pinned (OpenSpec.ofChange poolKeepsWrong)

/-- 'downspoutlaw11.PoolSlots': WHATEVER THE INPUT: true; the input reads as it did. -/
def poolSlotsSpec : ChangeSpec := { name := "poolSlots", fn := fun _ => fun
  | [d1, d2, d3] => { results := [.lit (.bool true)], args := [d1, d2, d3] }
  | _ => none }
def poolSlotsRow : OpenClaim := { program := "ytobejbgkfmpoeaa", sum := "026d8ac8bca960f4781cd6421559c40f3f22a100734aa836f20b322457ec1915", func := "downspout/downspoutlaw11.PoolSlots", spec := "poolSlots", unfollowed := true, recurses := true, apart := false }
def PoolSlotsSaid : Prop := poolSlotsRow.holds Try.pinned (OpenSpec.ofChange poolSlotsSpec)

/-- ITS FALSE NEIGHBOUR: 'it returns false'. Refute it at one input. -/
def poolSlotsWrong : ChangeSpec := { name := "poolSlots", fn := fun _ => fun
  | [d1, d2, d3] => { results := [.lit (.bool false)], args := [d1, d2, d3] }
  | _ => none }
def PoolSlotsWrongFalsely : Prop := poolSlotsRow.holds Try.pinned (OpenSpec.ofChange poolSlotsWrong)

/-- 'downspoutlaw11.PoolRefuses': WHATEVER THE INPUT: true; the input reads as it did. -/
def poolRefusesSpec : ChangeSpec := { name := "poolRefuses", fn := fun _ => fun
  | [d1, d2, d3] => { results := [.lit (.bool true)], args := [d1, d2, d3] }
  | _ => none }
def poolRefusesRow : OpenClaim := { program := "ytobejbgkfmpoeaa", sum := "026d8ac8bca960f4781cd6421559c40f3f22a100734aa836f20b322457ec1915", func := "downspout/downspoutlaw11.PoolRefuses", spec := "poolRefuses", unfollowed := true, recurses := true, apart := false }
def PoolRefusesSaid : Prop := poolRefusesRow.holds Try.pinned (OpenSpec.ofChange poolRefusesSpec)

/-- ITS FALSE NEIGHBOUR: 'it returns false'. Refute it at one input. -/
def poolRefusesWrong : ChangeSpec := { name := "poolRefuses", fn := fun _ => fun
  | [d1, d2, d3] => { results := [.lit (.bool false)], args := [d1, d2, d3] }
  | _ => none }
def PoolRefusesWrongFalsely : Prop := poolRefusesRow.holds Try.pinned (OpenSpec.ofChange poolRefusesWrong)

/- THE SECOND FORM. 'bulk': how many values and letters a reading holds, each counted each time it is reached (what is shared counts as often as it is met; a slice's spare places count too). A statement '..UptoSaid' is the law's where the arguments, and the package variables that the reading takes, are together of bulk at most 1048576: NARROWER than '..Said'. Prove '..Said' where nothing that the law and all that it calls make is longer than what came in: it says more and counts as full. Else prove '..UptoSaid'. A law counts once. -/
mutual
def uptoBulk {H : Type} : DataW H → Nat
  | .lit (.string bytes) => bytes.length + 1
  | .lit _ => 1
  | .nil => 1
  | .ptr d => uptoBulk d + 1
  | .slice elems spare => uptoBulkAll elems + uptoBulkAll spare + 1
  | .agg parts => uptoBulkAll parts + 1
  | .iface _ d => uptoBulk d + 1
  | .map entries => uptoBulkEntries entries + 1
  | .held _ => 1
def uptoBulkAll {H : Type} : List (DataW H) → Nat
  | [] => 0
  | d :: r => uptoBulk d + uptoBulkAll r
def uptoBulkEntries {H : Type} : List (Lit × DataW H) → Nat
  | [] => 0
  | x :: r => uptoBulkEntry x + uptoBulkEntries r
def uptoBulkEntry {H : Type} : Lit × DataW H → Nat
  | (.string bytes, d) => bytes.length + uptoBulk d + 1
  | (_, d) => uptoBulk d + 1
 end
def uptoSmall : (H : Type) → List (DataW H) → Bool := fun _ ds => decide (uptoBulkAll ds ≤ 1048576)
def OpenSpec.upto (s : _root_.Go.ChangeSpec) : _root_.Go.OpenSpec := { _root_.Go.OpenSpec.ofChange s with cond := some uptoSmall }

/-- 'downspoutlaw11.PoolSound', WHERE WHAT IT READS IS OF BULK AT MOST 1048576: true; the input reads as it did. -/
def poolSoundUptoRow : OpenClaim := { program := "ytobejbgkfmpoeaa", sum := "026d8ac8bca960f4781cd6421559c40f3f22a100734aa836f20b322457ec1915", func := "downspout/downspoutlaw11.PoolSound", spec := "poolSound", unfollowed := true, recurses := true, apart := false, narrowed := true }
def PoolSoundUptoSaid : Prop := poolSoundUptoRow.holds Try.pinned (OpenSpec.upto poolSoundSpec)

/-- 'downspoutlaw11.PoolShares', WHERE WHAT IT READS IS OF BULK AT MOST 1048576: true; the input reads as it did. -/
def poolSharesUptoRow : OpenClaim := { program := "ytobejbgkfmpoeaa", sum := "026d8ac8bca960f4781cd6421559c40f3f22a100734aa836f20b322457ec1915", func := "downspout/downspoutlaw11.PoolShares", spec := "poolShares", unfollowed := true, recurses := true, apart := false, narrowed := true }
def PoolSharesUptoSaid : Prop := poolSharesUptoRow.holds Try.pinned (OpenSpec.upto poolSharesSpec)

/-- 'downspoutlaw11.PoolFrees', WHERE WHAT IT READS IS OF BULK AT MOST 1048576: true; the input reads as it did. -/
def poolFreesUptoRow : OpenClaim := { program := "ytobejbgkfmpoeaa", sum := "026d8ac8bca960f4781cd6421559c40f3f22a100734aa836f20b322457ec1915", func := "downspout/downspoutlaw11.PoolFrees", spec := "poolFrees", unfollowed := true, recurses := true, apart := false, narrowed := true }
def PoolFreesUptoSaid : Prop := poolFreesUptoRow.holds Try.pinned (OpenSpec.upto poolFreesSpec)

/-- 'downspoutlaw11.PoolReaches', WHERE WHAT IT READS IS OF BULK AT MOST 1048576: true; the input reads as it did. -/
def poolReachesUptoRow : OpenClaim := { program := "ytobejbgkfmpoeaa", sum := "026d8ac8bca960f4781cd6421559c40f3f22a100734aa836f20b322457ec1915", func := "downspout/downspoutlaw11.PoolReaches", spec := "poolReaches", unfollowed := true, recurses := true, apart := false, narrowed := true }
def PoolReachesUptoSaid : Prop := poolReachesUptoRow.holds Try.pinned (OpenSpec.upto poolReachesSpec)

/-- 'downspoutlaw11.PoolMatchesReference', WHERE WHAT IT READS IS OF BULK AT MOST 1048576: true; the input reads as it did. -/
def poolMatchesReferenceUptoRow : OpenClaim := { program := "ytobejbgkfmpoeaa", sum := "026d8ac8bca960f4781cd6421559c40f3f22a100734aa836f20b322457ec1915", func := "downspout/downspoutlaw11.PoolMatchesReference", spec := "poolMatchesReference", unfollowed := true, recurses := true, apart := false, narrowed := true }
def PoolMatchesReferenceUptoSaid : Prop := poolMatchesReferenceUptoRow.holds Try.pinned (OpenSpec.upto poolMatchesReferenceSpec)

/-- 'downspoutlaw11.PoolKeeps', WHERE WHAT IT READS IS OF BULK AT MOST 1048576: true; the input reads as it did. -/
def poolKeepsUptoRow : OpenClaim := { program := "ytobejbgkfmpoeaa", sum := "026d8ac8bca960f4781cd6421559c40f3f22a100734aa836f20b322457ec1915", func := "downspout/downspoutlaw11.PoolKeeps", spec := "poolKeeps", unfollowed := true, recurses := true, apart := false, narrowed := true }
def PoolKeepsUptoSaid : Prop := poolKeepsUptoRow.holds Try.pinned (OpenSpec.upto poolKeepsSpec)

/-- 'downspoutlaw11.PoolSlots', WHERE WHAT IT READS IS OF BULK AT MOST 1048576: true; the input reads as it did. -/
def poolSlotsUptoRow : OpenClaim := { program := "ytobejbgkfmpoeaa", sum := "026d8ac8bca960f4781cd6421559c40f3f22a100734aa836f20b322457ec1915", func := "downspout/downspoutlaw11.PoolSlots", spec := "poolSlots", unfollowed := true, recurses := true, apart := false, narrowed := true }
def PoolSlotsUptoSaid : Prop := poolSlotsUptoRow.holds Try.pinned (OpenSpec.upto poolSlotsSpec)

/-- 'downspoutlaw11.PoolRefuses', WHERE WHAT IT READS IS OF BULK AT MOST 1048576: true; the input reads as it did. -/
def poolRefusesUptoRow : OpenClaim := { program := "ytobejbgkfmpoeaa", sum := "026d8ac8bca960f4781cd6421559c40f3f22a100734aa836f20b322457ec1915", func := "downspout/downspoutlaw11.PoolRefuses", spec := "poolRefuses", unfollowed := true, recurses := true, apart := false, narrowed := true }
def PoolRefusesUptoSaid : Prop := poolRefusesUptoRow.holds Try.pinned (OpenSpec.upto poolRefusesSpec)

end Rows
end Go.Proofs.Ytobejbgkfmpoeaa
