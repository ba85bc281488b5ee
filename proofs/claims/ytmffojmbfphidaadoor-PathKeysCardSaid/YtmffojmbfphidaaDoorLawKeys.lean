/- PathKeys holds for every input: a place is read from its key, and two places have the same key exactly if they are equal. No condition. The card is tied: the two tables of unicode/utf8 are laid as the program's text lays them (the tie is given); the calls that count read neither. -/
import Derived.Test.YtmffojmbfphidaaDoorDsChk
import Derived.Test.YtmffojmbfphidaaDoorDvFit
import Derived.Test.YtmffojmbfphidaaDoorDsReads
import Derived.Test.YtmffojmbfphidaaDoorTie
import Derived.Test.YtmffojmbfphidaaDoorCards
import Derived.SevenTiedAt
import Derived.Stop.Joined
set_option linter.all false
namespace Go.Proofs.YtmffojmbfphidaaDoor
open Go Go.Dv Ds
open Go.ChangeShapes Go.WideShapes Go.ChangeAt Go.RowKit

set_option maxRecDepth 100000 in
theorem lifted8 (os : Os) (started : os.Started) (H : Type) (enc : TypeId × Value → H) :
    ReturnsInHanded {} Tryd.checked os 8 .any (fun w args => (Rows.pathKeysSpec.pre enc Tryd.prog Tryd.f8 Rows.pathKeysRow.domain false w args ∧ laidMetH Tryd.prog Rows.pathKeysRow.laid w) ∧ sizedMet enc Tryd.prog Tryd.f8 (OpenSpec.ofChange Rows.pathKeysSpec) false w args)
      (Rows.pathKeysSpec.post enc Tryd.prog Tryd.f8 false true false false) :=
  law_lifted_laid2 (C := Tryd.checked) (k := 9) (X := fun w _ => laidMetH Tryd.prog Rows.pathKeysRow.laid w) (fun _ _ _ hh h => h.of_heap hh) (by kernel_rfl) started (by kernel_rfl) Tryd.func8
    (ChangeSpec.witness_shaped (enc := enc) (C := Tryd.checked) (os := os) (X := fun w _ => laidMetH Tryd.prog Rows.pathKeysRow.laid w) false (World.laidAll Tryd.prog os Rows.pathKeysRow.laid) #[.agg #[.slice none 0 0, .int .u8 0, .int .u16 0], .agg #[.slice none 0 0, .int .u8 0, .int .u16 0]] 8 (World.laidAll_os _ _ _)
      (World.shaped_of_ZipB (by kernel_rfl) (by kernel_rfl)) (by kernel_rfl) (by kernel_rfl) (by kernel_rfl)
      (by rw [MakeChecks.laidMetH_plain _ _ _ (by kernel_rfl)]; exact laidMet_laidAll _ (by kernel_rfl) (by kernel_rfl)))
    (by kernel_rfl) (by kernel_rfl) (u := 4) rfl Tryd.underlying4 rfl (fun ds h => by match ds, h with | [_, _], _ => rfl)
    (sound_law01_PathKeys NN) (by kernel_rfl) (fun x => by kernel_rfl) (fun x hx => plainKeys x.1 x.2 hx.1 hx.2)
theorem pathKeys_row : Rows.PathKeysSaid :=
  OpenClaim.holds_of_wide 8 Tryd.f8 rfl rfl rfl rfl rfl rfl rfl ⟨rfl, rfl, rfl, rfl, rfl⟩ rfl rfl rfl rfl rfl (by kernel_rfl) Tryd.func8 (by kernel_rfl)
    (of_decide_eq_true (by kernel_rfl)) (by unfold Func.isWrapper; first | (rw [if_pos (by decide +kernel)]; kernel_rfl) | (rw [if_neg (by decide +kernel)]; exact ⟨rfl, rfl⟩))
    (fun os started H enc _ => lifted8 os started H enc)
theorem pathKeys_holds : Rows.PathKeysCardSaid :=
  Claim7.holds_tied_plain_at .later [] [.data, .pinned] true (true, "a62e61bc3503fa51a8d79a54c12c78a62dbc52cc82be22ae707f8214e0648eb4") false pathKeys_row (fun _ h => by cases h) (by kernel_rfl) (fun _ h => by cases h) pathKeys_row_tie rfl ⟨rfl, rfl⟩ (by kernel_rfl) rfl
    (fun f fn hf hfn => by
      obtain rfl : f = 8 := Option.some.inj ((show Tryd.prog.funcNamed "downspout/downspoutlaw01.PathKeys" = some 8 by kernel_rfl).symm.trans hf) |>.symm
      obtain rfl : fn = Tryd.f8 := (Option.some.inj (Tryd.func8.symm.trans hfn)).symm
      exact ⟨by kernel_rfl, fun j t ht => by
        rw [Tryd.params8] at ht
        have hm : t ∈ [44] := by have := Array.mem_of_getElem? ht; simp at this ⊢; omega
        have hall : ([44].all fun u => !Tryd.prog.wantsStandIn u) = true := by kernel_rfl
        exact (show Tryd.prog.wantsStandIn t = false by simpa using List.all_eq_true.1 hall t hm)⟩)
    (by kernel_rfl)
#print axioms pathKeys_holds
end Go.Proofs.YtmffojmbfphidaaDoor
