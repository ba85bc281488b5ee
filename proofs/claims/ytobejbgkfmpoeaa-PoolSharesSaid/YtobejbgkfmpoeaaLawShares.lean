/- Proved: PoolShares of package downspoutlaw11, whatever else is dropped, what a root reaches remains as it is, with the same ids. No condition. -/
import Derived.Test.YtobejbgkfmpoeaaDsChk
import Derived.Test.YtobejbgkfmpoeaaDvD
import Derived.Test.YtobejbgkfmpoeaaDsFrees
import Derived.Test.YtobejbgkfmpoeaaRows
set_option linter.all false
namespace Go.Proofs.Ytobejbgkfmpoeaa
open Go Go.Dv Ds
open Go.ChangeShapes Go.WideShapes Go.ChangeAt Go.RowKit

set_option maxRecDepth 100000 in
theorem lifted4 (os : Os) (started : os.Started) (H : Type) (enc : TypeId × Value → H) :
    ReturnsInHanded {} Try.checked os 4 .any (Rows.poolSharesSpec.pre6 enc Try.prog Try.f4 Rows.poolSharesRow.domain false) (Rows.poolSharesSpec.post enc Try.prog Try.f4 false true false false) :=
  law_lifted (C := Try.checked) (k := 9) (by kernel_rfl) started (by kernel_rfl) Try.func4
    (ChangeSpec.witness6 (enc := enc) (C := Try.checked) false ⟨#[], #[.slice none 0 0, .int .u8 0], []⟩ 8 (by kernel_rfl) (by kernel_rfl) (by kernel_rfl) (by kernel_rfl))
    (by kernel_rfl) (by kernel_rfl) (u := 4) rfl Try.underlying4 rfl (fun ds h => by match ds, h with | [_, _], _ => rfl)
    (sound_law11_PoolShares NN) (by kernel_rfl) (fun x => by kernel_rfl) (fun x hx => plainShares x.1 x.2 hx.1 hx.2)
theorem poolShares_holds : Rows.PoolSharesSaid :=
  OpenClaim.holds_of_wide 4 Try.f4 rfl rfl rfl rfl rfl rfl rfl ⟨rfl, rfl, rfl, rfl, rfl⟩ rfl rfl rfl rfl rfl (by kernel_rfl) Try.func4 (by kernel_rfl)
    (of_decide_eq_true (by kernel_rfl)) (by unfold Func.isWrapper; first | (rw [if_pos (by decide +kernel)]; kernel_rfl) | (rw [if_neg (by decide +kernel)]; exact ⟨rfl, rfl⟩))
    (fun os started H enc _ => lifted4 os started H enc)
#print axioms poolShares_holds
end Go.Proofs.Ytobejbgkfmpoeaa
