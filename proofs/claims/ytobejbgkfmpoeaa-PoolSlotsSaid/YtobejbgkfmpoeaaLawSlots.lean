/- Proved: PoolSlots of package downspoutlaw11, a new node gets the least id that is not used, its kids are held once more, and holding and dropping changes nothing. No condition. -/
import Derived.Test.YtobejbgkfmpoeaaDsChk
import Derived.Test.YtobejbgkfmpoeaaDvD
import Derived.Test.YtobejbgkfmpoeaaDsSlots
import Derived.Test.YtobejbgkfmpoeaaRows
set_option linter.all false
namespace Go.Proofs.Ytobejbgkfmpoeaa
open Go Go.Dv Ds
open Go.ChangeShapes Go.WideShapes Go.ChangeAt Go.RowKit

set_option maxRecDepth 100000 in
theorem lifted9 (os : Os) (started : os.Started) (H : Type) (enc : TypeId × Value → H) :
    ReturnsInHanded {} Try.checked os 9 .any (Rows.poolSlotsSpec.pre6 enc Try.prog Try.f9 Rows.poolSlotsRow.domain false) (Rows.poolSlotsSpec.post enc Try.prog Try.f9 false true false false) :=
  law_lifted (C := Try.checked) (k := 9) (by kernel_rfl) started (by kernel_rfl) Try.func9
    (ChangeSpec.witness6 (enc := enc) (C := Try.checked) false ⟨#[], #[.slice none 0 0, .agg #[.int .u8 0, .int .u8 0, .int .u8 0, .int .u8 0], .int .u8 0], []⟩ 8 (by kernel_rfl) (by kernel_rfl) (by kernel_rfl) (by kernel_rfl))
    (by kernel_rfl) (by kernel_rfl) (u := 4) rfl Try.underlying4 rfl (fun ds h => by match ds, h with | [_, _, _], _ => rfl)
    (sound_law11_PoolSlots NN) (by kernel_rfl) (fun x => by kernel_rfl) (fun x hx => plainSlots x.1 x.2.1 x.2.2 hx.1 hx.2.1 hx.2.2)
theorem poolSlots_holds : Rows.PoolSlotsSaid :=
  OpenClaim.holds_of_wide 9 Try.f9 rfl rfl rfl rfl rfl rfl rfl ⟨rfl, rfl, rfl, rfl, rfl⟩ rfl rfl rfl rfl rfl (by kernel_rfl) Try.func9 (by kernel_rfl)
    (of_decide_eq_true (by kernel_rfl)) (by unfold Func.isWrapper; first | (rw [if_pos (by decide +kernel)]; kernel_rfl) | (rw [if_neg (by decide +kernel)]; exact ⟨rfl, rfl⟩))
    (fun os started H enc _ => lifted9 os started H enc)
#print axioms poolSlots_holds
end Go.Proofs.Ytobejbgkfmpoeaa
