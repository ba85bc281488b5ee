/- SettleCounts holds for every input: a clone settles to one message more than it has pairs, a move to two more. No condition. -/
import Derived.Test.YtfecapegkdpbhaaDsChk
import Derived.Test.YtfecapegkdpbhaaDvJoin
import Derived.Test.YtfecapegkdpbhaaDsCounts
import Derived.Test.YtfecapegkdpbhaaRows
set_option linter.all false
namespace Go.Proofs.Ytfecapegkdpbhaa
open Go Go.Dv Ds
open Go.ChangeShapes Go.WideShapes Go.ChangeAt Go.RowKit

set_option maxRecDepth 100000 in
theorem lifted5 (os : Os) (started : os.Started) (H : Type) (enc : TypeId × Value → H) :
    ReturnsInHanded {} Try.checked os 5 .any (Rows.settleCountsSpec.pre6 enc Try.prog Try.f5 Rows.settleCountsRow.domain false) (Rows.settleCountsSpec.post enc Try.prog Try.f5 false true false false) :=
  law_lifted (C := Try.checked) (k := 9) (by kernel_rfl) started (by kernel_rfl) Try.func5
    (ChangeSpec.witness6 (enc := enc) (C := Try.checked) false ⟨#[], #[.slice none 0 0, .agg #[.int .u8 0, .int .u8 0, .int .u8 0, .int .u8 0, .int .u8 0, .int .u8 0]], []⟩ 8 (by kernel_rfl) (by kernel_rfl) (by kernel_rfl) (by kernel_rfl))
    (by kernel_rfl) (by kernel_rfl) (u := 4) rfl Try.underlying4 rfl (fun ds h => by match ds, h with | [_, _], _ => rfl)
    (sound_law09_SettleCounts NN) (by kernel_rfl) (fun x => by kernel_rfl) (fun x hx => plainCounts x.1 x.2 hx.1 hx.2)
theorem settleCounts_holds : Rows.SettleCountsSaid :=
  OpenClaim.holds_of_wide 5 Try.f5 rfl rfl rfl rfl rfl rfl rfl ⟨rfl, rfl, rfl, rfl, rfl⟩ rfl rfl rfl rfl rfl (by kernel_rfl) Try.func5 (by kernel_rfl)
    (of_decide_eq_true (by kernel_rfl)) (by unfold Func.isWrapper; first | (rw [if_pos (by decide +kernel)]; kernel_rfl) | (rw [if_neg (by decide +kernel)]; exact ⟨rfl, rfl⟩))
    (fun os started H enc _ => lifted5 os started H enc)
#print axioms settleCounts_holds
end Go.Proofs.Ytfecapegkdpbhaa
