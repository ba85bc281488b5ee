/- EntryValues holds for every input: a valid entry is read from its value, and two valid entries have the same value exactly if they are equal. No condition. The card is tied: the two tables of unicode/utf8 are laid as the program's text lays them (the tie is given); the calls that count read neither. -/
import Derived.Test.YtbjchookalpoiaaDoorDsChk
import Derived.Test.YtbjchookalpoiaaDoorDvE
import Derived.Test.YtbjchookalpoiaaDoorDsEntries
import Derived.Test.YtbjchookalpoiaaDoorTie
import Derived.Test.YtbjchookalpoiaaDoorCards
import Derived.SevenTiedAt
import Derived.Stop.Joined
set_option linter.all false
namespace Go.Proofs.YtbjchookalpoiaaDoor
open Go Go.Dv Ds
open Go.ChangeShapes Go.WideShapes Go.ChangeAt Go.RowKit

set_option maxRecDepth 100000 in
theorem lifted4 (os : Os) (started : os.Started) (H : Type) (enc : TypeId × Value → H) :
    ReturnsInHanded {} Tryd.checked os 4 .any (fun w args => (Rows.entryValuesSpec.pre enc Tryd.prog Tryd.f4 Rows.entryValuesRow.domain false w args ∧ laidMetH Tryd.prog Rows.entryValuesRow.laid w) ∧ sizedMet enc Tryd.prog Tryd.f4 (OpenSpec.ofChange Rows.entryValuesSpec) false w args)
      (Rows.entryValuesSpec.post enc Tryd.prog Tryd.f4 false true false false) :=
  law_lifted_laid2 (C := Tryd.checked) (k := 9) (X := fun w _ => laidMetH Tryd.prog Rows.entryValuesRow.laid w) (fun _ _ _ hh h => h.of_heap hh) (by kernel_rfl) started (by kernel_rfl) Tryd.func4
    (ChangeSpec.witness_shaped (enc := enc) (C := Tryd.checked) (os := os) (X := fun w _ => laidMetH Tryd.prog Rows.entryValuesRow.laid w) false (World.laidAll Tryd.prog os Rows.entryValuesRow.laid) #[.agg #[.int .u8 0, .int .u8 0, .int .u16 0, .int .u16 0, .string ByteArray.empty], .agg #[.int .u8 0, .int .u8 0, .int .u16 0, .int .u16 0, .string ByteArray.empty], .int .u8 0] 8 (World.laidAll_os _ _ _)
      (World.shaped_of_ZipB (by kernel_rfl) (by kernel_rfl)) (by kernel_rfl) (by kernel_rfl) (by kernel_rfl)
      (by rw [MakeChecks.laidMetH_plain _ _ _ (by kernel_rfl)]; exact laidMet_laidAll _ (by kernel_rfl) (by kernel_rfl)))
    (by kernel_rfl) (by kernel_rfl) (u := 4) rfl Tryd.underlying4 rfl (fun ds h => by match ds, h with | [_, _, _], _ => rfl)
    (sound_law03_EntryValues NN) (by kernel_rfl) (fun x => by kernel_rfl) (fun x hx => plainValues x.1 x.2.1 x.2.2 hx.1 hx.2.1 hx.2.2)
theorem entryValues_row : Rows.EntryValuesSaid :=
  OpenClaim.holds_of_wide 4 Tryd.f4 rfl rfl rfl rfl rfl rfl rfl ⟨rfl, rfl, rfl, rfl, rfl⟩ rfl rfl rfl rfl rfl (by kernel_rfl) Tryd.func4 (by kernel_rfl)
    (of_decide_eq_true (by kernel_rfl)) (by unfold Func.isWrapper; first | (rw [if_pos (by decide +kernel)]; kernel_rfl) | (rw [if_neg (by decide +kernel)]; exact ⟨rfl, rfl⟩))
    (fun os started H enc _ => lifted4 os started H enc)
theorem entryValues_holds : Rows.EntryValuesCardSaid :=
  Claim7.holds_tied_plain_at .later [] [.data, .pinned] true (true, "a0022e0879123b2edb5fa6ee98864cb8caaa6c49f5c0217ec8d28a028afda289") false entryValues_row (fun _ h => by cases h) (by kernel_rfl) (fun _ h => by cases h) entryValues_row_tie rfl ⟨rfl, rfl⟩ (by kernel_rfl) rfl
    (fun f fn hf hfn => by
      obtain rfl : f = 4 := Option.some.inj ((show Tryd.prog.funcNamed "downspout/downspoutlaw03.EntryValues" = some 4 by kernel_rfl).symm.trans hf) |>.symm
      obtain rfl : fn = Tryd.f4 := (Option.some.inj (Tryd.func4.symm.trans hfn)).symm
      exact ⟨by kernel_rfl, fun j t ht => by
        rw [Tryd.params4] at ht
        have hm : t ∈ [41, 5] := by have := Array.mem_of_getElem? ht; simp at this ⊢; omega
        have hall : ([41, 5].all fun u => !Tryd.prog.wantsStandIn u) = true := by kernel_rfl
        exact (show Tryd.prog.wantsStandIn t = false by simpa using List.all_eq_true.1 hall t hm)⟩)
    (by kernel_rfl)
#print axioms entryValues_holds
end Go.Proofs.YtbjchookalpoiaaDoor
