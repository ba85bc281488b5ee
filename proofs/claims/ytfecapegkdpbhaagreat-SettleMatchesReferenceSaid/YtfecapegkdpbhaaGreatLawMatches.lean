/- SettleMatchesReference holds for every input: List, First and Turn agree with the reference implementation. No condition. -/
import Derived.Test.YtfecapegkdpbhaaGreatDsChk
import Derived.Test.YtfecapegkdpbhaaGreatDvJoin
import Derived.Test.YtfecapegkdpbhaaGreatDsMatches
import Derived.Test.YtfecapegkdpbhaaGreatRows
set_option linter.all false
namespace Go.Proofs.YtfecapegkdpbhaaGreat
open Go Go.Dv Ds
open Go.ChangeShapes Go.WideShapes Go.ChangeAt Go.RowKit

set_option maxRecDepth 100000 in
theorem lifted3 (os : Os) (started : os.Started) (H : Type) (enc : TypeId × Value → H) :
    ReturnsInHanded {} Tryz.checked os 3 .any (Rows.settleMatchesReferenceSpec.pre6 enc Tryz.prog Tryz.f3 Rows.settleMatchesReferenceRow.domain false) (Rows.settleMatchesReferenceSpec.post enc Tryz.prog Tryz.f3 false true false false) :=
  law_lifted (C := Tryz.checked) (k := 9) (by kernel_rfl) started (by kernel_rfl) Tryz.func3
    (ChangeSpec.witness6 (enc := enc) (C := Tryz.checked) false ⟨#[], #[.slice none 0 0, .slice none 0 0, .int .u8 0], []⟩ 8 (by kernel_rfl) (by kernel_rfl) (by kernel_rfl) (by kernel_rfl))
    (by kernel_rfl) (by kernel_rfl) (u := 4) rfl Tryz.underlying4 rfl (fun ds h => by match ds, h with | [_, _, _], _ => rfl)
    (sound_law09_SettleMatchesReference NN) (by kernel_rfl) (fun x => by kernel_rfl) (fun x hx => plainMatches x.1 x.2.1 x.2.2 hx.1 hx.2.1 hx.2.2)
theorem settleMatchesReference_holds : Rows.SettleMatchesReferenceSaid :=
  OpenClaim.holds_of_wide 3 Tryz.f3 rfl rfl rfl rfl rfl rfl rfl ⟨rfl, rfl, rfl, rfl, rfl⟩ rfl rfl rfl rfl rfl (by kernel_rfl) Tryz.func3 (by kernel_rfl)
    (of_decide_eq_true (by kernel_rfl)) (by unfold Func.isWrapper; first | (rw [if_pos (by decide +kernel)]; kernel_rfl) | (rw [if_neg (by decide +kernel)]; exact ⟨rfl, rfl⟩))
    (fun os started H enc _ => lifted3 os started H enc)
#print axioms settleMatchesReference_holds
end Go.Proofs.YtfecapegkdpbhaaGreat
