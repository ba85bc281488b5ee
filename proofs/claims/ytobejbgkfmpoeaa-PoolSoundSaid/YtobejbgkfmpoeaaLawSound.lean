/- Proved: PoolSound of package downspoutlaw11, Sound agrees with the definition for pools of scripts with their roots, with other roots, and with a slot in which something was changed. No condition. -/
import Derived.Test.YtobejbgkfmpoeaaDsChk
import Derived.Test.YtobejbgkfmpoeaaDvD
import Derived.Test.YtobejbgkfmpoeaaDsKeeps
import Derived.Test.YtobejbgkfmpoeaaRows
set_option linter.all false
namespace Go.Proofs.Ytobejbgkfmpoeaa
open Go Go.Dv Ds
open Go.ChangeShapes Go.WideShapes Go.ChangeAt Go.RowKit

set_option maxRecDepth 100000 in
theorem lifted3 (os : Os) (started : os.Started) (H : Type) (enc : TypeId × Value → H) :
    ReturnsInHanded {} Try.checked os 3 .any (Rows.poolSoundSpec.pre6 enc Try.prog Try.f3 Rows.poolSoundRow.domain false) (Rows.poolSoundSpec.post enc Try.prog Try.f3 false true false false) :=
  law_lifted (C := Try.checked) (k := 9) (by kernel_rfl) started (by kernel_rfl) Try.func3
    (ChangeSpec.witness6 (enc := enc) (C := Try.checked) false ⟨#[], #[.slice none 0 0, .slice none 0 0, .agg #[.int .u8 0, .int .u8 0, .int .u8 0]], []⟩ 8 (by kernel_rfl) (by kernel_rfl) (by kernel_rfl) (by kernel_rfl))
    (by kernel_rfl) (by kernel_rfl) (u := 4) rfl Try.underlying4 rfl (fun ds h => by match ds, h with | [_, _, _], _ => rfl)
    (sound_law11_PoolSound NN) (by kernel_rfl) (fun x => by kernel_rfl) (fun x hx => plainSound x.1 x.2.1 x.2.2 hx.1 hx.2.1 hx.2.2)
theorem poolSound_holds : Rows.PoolSoundSaid :=
  OpenClaim.holds_of_wide 3 Try.f3 rfl rfl rfl rfl rfl rfl rfl ⟨rfl, rfl, rfl, rfl, rfl⟩ rfl rfl rfl rfl rfl (by kernel_rfl) Try.func3 (by kernel_rfl)
    (of_decide_eq_true (by kernel_rfl)) (by unfold Func.isWrapper; first | (rw [if_pos (by decide +kernel)]; kernel_rfl) | (rw [if_neg (by decide +kernel)]; exact ⟨rfl, rfl⟩))
    (fun os started H enc _ => lifted3 os started H enc)
#print axioms poolSound_holds
end Go.Proofs.Ytobejbgkfmpoeaa
