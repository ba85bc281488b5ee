/- SettleCrosses holds for every input: the settled messages of a move or a clone cross no pivots. No condition. -/
import Derived.Test.YtfecapegkdpbhaaDsChk
import Derived.Test.YtfecapegkdpbhaaDvJoin
import Derived.Test.YtfecapegkdpbhaaDsCrosses
import Derived.Test.YtfecapegkdpbhaaRows
set_option linter.all false
namespace Go.Proofs.Ytfecapegkdpbhaa
open Go Go.Dv Ds
open Go.ChangeShapes Go.WideShapes Go.ChangeAt Go.RowKit

set_option maxRecDepth 100000 in
theorem lifted3 (os : Os) (started : os.Started) (H : Type) (enc : TypeId × Value → H) :
    ReturnsInHanded {} Try.checked os 3 .any (Rows.settleCrossesSpec.pre6 enc Try.prog Try.f3 Rows.settleCrossesRow.domain false) (Rows.settleCrossesSpec.post enc Try.prog Try.f3 false true false false) :=
  law_lifted (C := Try.checked) (k := 9) (by kernel_rfl) started (by kernel_rfl) Try.func3
    (ChangeSpec.witness6 (enc := enc) (C := Try.checked) false ⟨#[], #[.slice none 0 0, .agg #[.int .u8 0, .int .u8 0, .int .u8 0, .int .u8 0, .int .u8 0, .int .u8 0], .int .u8 0], []⟩ 8 (by kernel_rfl) (by kernel_rfl) (by kernel_rfl) (by kernel_rfl))
    (by kernel_rfl) (by kernel_rfl) (u := 4) rfl Try.underlying4 rfl (fun ds h => by match ds, h with | [_, _, _], _ => rfl)
    (sound_law09_SettleCrosses NN) (by kernel_rfl) (fun x => by kernel_rfl) (fun x hx => plainCrosses x.1 x.2.1 x.2.2 hx.1 hx.2.1 hx.2.2)
theorem settleCrosses_holds : Rows.SettleCrossesSaid :=
  OpenClaim.holds_of_wide 3 Try.f3 rfl rfl rfl rfl rfl rfl rfl ⟨rfl, rfl, rfl, rfl, rfl⟩ rfl rfl rfl rfl rfl (by kernel_rfl) Try.func3 (by kernel_rfl)
    (of_decide_eq_true (by kernel_rfl)) (by unfold Func.isWrapper; first | (rw [if_pos (by decide +kernel)]; kernel_rfl) | (rw [if_neg (by decide +kernel)]; exact ⟨rfl, rfl⟩))
    (fun os started H enc _ => lifted3 os started H enc)
#print axioms settleCrosses_holds
end Go.Proofs.Ytfecapegkdpbhaa
