/- EntryKinds holds for every input: an entry with a field of another kind is refused, as are texts with other bytes, empty and longer ones, and unknown kinds. No condition. The card is tied: the two tables of unicode/utf8 are laid as the program's text lays them (the tie is given); the calls that count read neither. -/
import Derived.Test.YtbjchookalpoiaaDoorDsChk
import Derived.Test.YtbjchookalpoiaaDoorDvE
import Derived.Test.YtbjchookalpoiaaDoorDsEntries
import Derived.Test.YtbjchookalpoiaaDoorTie
import Derived.Test.YtbjchookalpoiaaDoorCards
import Derived.SevenTiedAt
import Derived.Stop.Joined
set_option linter.all false
namespace Go.Proofs.YtbjchookalpoiaaDoor
open Go Go.Dv Ds
open Go.ChangeShapes Go.WideShapes Go.ChangeAt Go.RowKit

set_option maxRecDepth 100000 in
theorem lifted9 (os : Os) (started : os.Started) (H : Type) (enc : TypeId × Value → H) :
    ReturnsInHanded {} Tryd.checked os 9 .any (fun w args => (Rows.entryKindsSpec.pre enc Tryd.prog Tryd.f9 Rows.entryKindsRow.domain false w args ∧ laidMetH Tryd.prog Rows.entryKindsRow.laid w) ∧ sizedMet enc Tryd.prog Tryd.f9 (OpenSpec.ofChange Rows.entryKindsSpec) false w args)
      (Rows.entryKindsSpec.post enc Tryd.prog Tryd.f9 false true false false) :=
  law_lifted_laid2 (C := Tryd.checked) (k := 9) (X := fun w _ => laidMetH Tryd.prog Rows.entryKindsRow.laid w) (fun _ _ _ hh h => h.of_heap hh) (by kernel_rfl) started (by kernel_rfl) Tryd.func9
    (ChangeSpec.witness_shaped (enc := enc) (C := Tryd.checked) (os := os) (X := fun w _ => laidMetH Tryd.prog Rows.entryKindsRow.laid w) false (World.laidAll Tryd.prog os Rows.entryKindsRow.laid) #[.agg #[.int .u8 0, .int .u8 0, .int .u16 0, .int .u16 0, .string ByteArray.empty], .int .u8 0, .int .u8 0] 8 (World.laidAll_os _ _ _)
      (World.shaped_of_ZipB (by kernel_rfl) (by kernel_rfl)) (by kernel_rfl) (by kernel_rfl) (by kernel_rfl)
      (by rw [MakeChecks.laidMetH_plain _ _ _ (by kernel_rfl)]; exact laidMet_laidAll _ (by kernel_rfl) (by kernel_rfl)))
    (by kernel_rfl) (by kernel_rfl) (u := 4) rfl Tryd.underlying4 rfl (fun ds h => by match ds, h with | [_, _, _], _ => rfl)
    (sound_law03_EntryKinds NN) (by kernel_rfl) (fun x => by kernel_rfl) (fun x hx => plainKinds x.1 x.2.1 x.2.2 hx.1 hx.2.1 hx.2.2)
theorem entryKinds_row : Rows.EntryKindsSaid :=
  OpenClaim.holds_of_wide 9 Tryd.f9 rfl rfl rfl rfl rfl rfl rfl ⟨rfl, rfl, rfl, rfl, rfl⟩ rfl rfl rfl rfl rfl (by kernel_rfl) Tryd.func9 (by kernel_rfl)
    (of_decide_eq_true (by kernel_rfl)) (by unfold Func.isWrapper; first | (rw [if_pos (by decide +kernel)]; kernel_rfl) | (rw [if_neg (by decide +kernel)]; exact ⟨rfl, rfl⟩))
    (fun os started H enc _ => lifted9 os started H enc)
theorem entryKinds_holds : Rows.EntryKindsCardSaid :=
  Claim7.holds_tied_plain_at .later [] [.data, .pinned] true (true, "a0022e0879123b2edb5fa6ee98864cb8caaa6c49f5c0217ec8d28a028afda289") false entryKinds_row (fun _ h => by cases h) (by kernel_rfl) (fun _ h => by cases h) entryKinds_row_tie rfl ⟨rfl, rfl⟩ (by kernel_rfl) rfl
    (fun f fn hf hfn => by
      obtain rfl : f = 9 := Option.some.inj ((show Tryd.prog.funcNamed "downspout/downspoutlaw03.EntryKinds" = some 9 by kernel_rfl).symm.trans hf) |>.symm
      obtain rfl : fn = Tryd.f9 := (Option.some.inj (Tryd.func9.symm.trans hfn)).symm
      exact ⟨by kernel_rfl, fun j t ht => by
        rw [Tryd.params9] at ht
        have hm : t ∈ [41, 5] := by have := Array.mem_of_getElem? ht; simp at this ⊢; omega
        have hall : ([41, 5].all fun u => !Tryd.prog.wantsStandIn u) = true := by kernel_rfl
        exact (show Tryd.prog.wantsStandIn t = false by simpa using List.all_eq_true.1 hall t hm)⟩)
    (by kernel_rfl)
#print axioms entryKinds_holds
end Go.Proofs.YtbjchookalpoiaaDoor
