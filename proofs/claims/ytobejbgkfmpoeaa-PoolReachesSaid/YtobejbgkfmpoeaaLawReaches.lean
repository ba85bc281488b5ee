/- Proved: PoolReaches of package downspoutlaw11, what is reached from several roots is what is reached from one of them, and kids are reached with their nodes. No condition. -/
import Derived.Test.YtobejbgkfmpoeaaDsChk
import Derived.Test.YtobejbgkfmpoeaaDvD
import Derived.Test.YtobejbgkfmpoeaaDsReaches
import Derived.Test.YtobejbgkfmpoeaaRows
set_option linter.all false
namespace Go.Proofs.Ytobejbgkfmpoeaa
open Go Go.Dv Ds
open Go.ChangeShapes Go.WideShapes Go.ChangeAt Go.RowKit

set_option maxRecDepth 100000 in
theorem lifted6 (os : Os) (started : os.Started) (H : Type) (enc : TypeId × Value → H) :
    ReturnsInHanded {} Try.checked os 6 .any (Rows.poolReachesSpec.pre6 enc Try.prog Try.f6 Rows.poolReachesRow.domain false) (Rows.poolReachesSpec.post enc Try.prog Try.f6 false true false false) :=
  law_lifted (C := Try.checked) (k := 9) (by kernel_rfl) started (by kernel_rfl) Try.func6
    (ChangeSpec.witness6 (enc := enc) (C := Try.checked) false ⟨#[], #[.slice none 0 0, .slice none 0 0], []⟩ 8 (by kernel_rfl) (by kernel_rfl) (by kernel_rfl) (by kernel_rfl))
    (by kernel_rfl) (by kernel_rfl) (u := 4) rfl Try.underlying4 rfl (fun ds h => by match ds, h with | [_, _], _ => rfl)
    (sound_law11_PoolReaches NN) (by kernel_rfl) (fun x => by kernel_rfl) (fun x hx => plainReaches x.1 x.2 hx.1 hx.2)
theorem poolReaches_holds : Rows.PoolReachesSaid :=
  OpenClaim.holds_of_wide 6 Try.f6 rfl rfl rfl rfl rfl rfl rfl ⟨rfl, rfl, rfl, rfl, rfl⟩ rfl rfl rfl rfl rfl (by kernel_rfl) Try.func6 (by kernel_rfl)
    (of_decide_eq_true (by kernel_rfl)) (by unfold Func.isWrapper; first | (rw [if_pos (by decide +kernel)]; kernel_rfl) | (rw [if_neg (by decide +kernel)]; exact ⟨rfl, rfl⟩))
    (fun os started H enc _ => lifted6 os started H enc)
#print axioms poolReaches_holds
end Go.Proofs.Ytobejbgkfmpoeaa
