/- PathMatchesReference holds for every input: all functions of paths return the results of the reference, for paths that are made of names, for any text, and for texts in which a byte was changed. No condition. The card is tied: the two tables of unicode/utf8 are laid as the program's text lays them (the tie is given); the calls that count read neither. -/
import Derived.Test.YtmffojmbfphidaaDoorDsChk
import Derived.Test.YtmffojmbfphidaaDoorDvE
import Derived.Test.YtmffojmbfphidaaDoorDsMatch
import Derived.Test.YtmffojmbfphidaaDoorTie
import Derived.Test.YtmffojmbfphidaaDoorCards
import Derived.SevenTiedAt
import Derived.Stop.Joined
set_option linter.all false
namespace Go.Proofs.YtmffojmbfphidaaDoor
open Go Go.Dv Ds
open Go.ChangeShapes Go.WideShapes Go.ChangeAt Go.RowKit

set_option maxRecDepth 100000 in
theorem lifted3 (os : Os) (started : os.Started) (H : Type) (enc : TypeId × Value → H) :
    ReturnsInHanded {} Tryd.checked os 3 .any (fun w args => (Rows.pathMatchesReferenceSpec.pre enc Tryd.prog Tryd.f3 Rows.pathMatchesReferenceRow.domain false w args ∧ laidMetH Tryd.prog Rows.pathMatchesReferenceRow.laid w) ∧ sizedMet enc Tryd.prog Tryd.f3 (OpenSpec.ofChange Rows.pathMatchesReferenceSpec) false w args)
      (Rows.pathMatchesReferenceSpec.post enc Tryd.prog Tryd.f3 false true false false) :=
  law_lifted_laid2 (C := Tryd.checked) (k := 9) (X := fun w _ => laidMetH Tryd.prog Rows.pathMatchesReferenceRow.laid w) (fun _ _ _ hh h => h.of_heap hh) (by kernel_rfl) started (by kernel_rfl) Tryd.func3
    (ChangeSpec.witness_shaped (enc := enc) (C := Tryd.checked) (os := os) (X := fun w _ => laidMetH Tryd.prog Rows.pathMatchesReferenceRow.laid w) false (World.laidAll Tryd.prog os Rows.pathMatchesReferenceRow.laid) #[.slice none 0 0, .string ByteArray.empty, .agg #[.int .u8 0, .int .u8 0]] 8 (World.laidAll_os _ _ _)
      (World.shaped_of_ZipB (by kernel_rfl) (by kernel_rfl)) (by kernel_rfl) (by kernel_rfl) (by kernel_rfl)
      (by rw [MakeChecks.laidMetH_plain _ _ _ (by kernel_rfl)]; exact laidMet_laidAll _ (by kernel_rfl) (by kernel_rfl)))
    (by kernel_rfl) (by kernel_rfl) (u := 4) rfl Tryd.underlying4 rfl (fun ds h => by match ds, h with | [_, _, _], _ => rfl)
    (sound_law01_PathMatchesReference NN) (by kernel_rfl) (fun x => by kernel_rfl) (fun x hx => plainMatch x.1 x.2.1 x.2.2 hx.1 hx.2.1 hx.2.2)
theorem pathMatchesReference_row : Rows.PathMatchesReferenceSaid :=
  OpenClaim.holds_of_wide 3 Tryd.f3 rfl rfl rfl rfl rfl rfl rfl ⟨rfl, rfl, rfl, rfl, rfl⟩ rfl rfl rfl rfl rfl (by kernel_rfl) Tryd.func3 (by kernel_rfl)
    (of_decide_eq_true (by kernel_rfl)) (by unfold Func.isWrapper; first | (rw [if_pos (by decide +kernel)]; kernel_rfl) | (rw [if_neg (by decide +kernel)]; exact ⟨rfl, rfl⟩))
    (fun os started H enc _ => lifted3 os started H enc)
theorem pathMatchesReference_holds : Rows.PathMatchesReferenceCardSaid :=
  Claim7.holds_tied_plain_at .later [] [.data, .pinned] true (true, "a62e61bc3503fa51a8d79a54c12c78a62dbc52cc82be22ae707f8214e0648eb4") false pathMatchesReference_row (fun _ h => by cases h) (by kernel_rfl) (fun _ h => by cases h) pathMatchesReference_row_tie rfl ⟨rfl, rfl⟩ (by kernel_rfl) rfl
    (fun f fn hf hfn => by
      obtain rfl : f = 3 := Option.some.inj ((show Tryd.prog.funcNamed "downspout/downspoutlaw01.PathMatchesReference" = some 3 by kernel_rfl).symm.trans hf) |>.symm
      obtain rfl : fn = Tryd.f3 := (Option.some.inj (Tryd.func3.symm.trans hfn)).symm
      exact ⟨by kernel_rfl, fun j t ht => by
        rw [Tryd.params3] at ht
        have hm : t ∈ [22, 9, 23] := by have := Array.mem_of_getElem? ht; simp at this ⊢; omega
        have hall : ([22, 9, 23].all fun u => !Tryd.prog.wantsStandIn u) = true := by kernel_rfl
        exact (show Tryd.prog.wantsStandIn t = false by simpa using List.all_eq_true.1 hall t hm)⟩)
    (by kernel_rfl)
#print axioms pathMatchesReference_holds
end Go.Proofs.YtmffojmbfphidaaDoor
