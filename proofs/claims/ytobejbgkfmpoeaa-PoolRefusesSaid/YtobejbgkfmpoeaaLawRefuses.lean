/- Proved: PoolRefuses of package downspoutlaw11, ids that are not used are refused by all functions, and a pool with 4096 nodes is full until one is dropped. No condition. -/
import Derived.Test.YtobejbgkfmpoeaaDsChk
import Derived.Test.YtobejbgkfmpoeaaDvD
import Derived.Test.YtobejbgkfmpoeaaDsSlots
import Derived.Test.YtobejbgkfmpoeaaRows
set_option linter.all false
namespace Go.Proofs.Ytobejbgkfmpoeaa
open Go Go.Dv Ds
open Go.ChangeShapes Go.WideShapes Go.ChangeAt Go.RowKit

set_option maxRecDepth 100000 in
theorem lifted10 (os : Os) (started : os.Started) (H : Type) (enc : TypeId × Value → H) :
    ReturnsInHanded {} Try.checked os 10 .any (Rows.poolRefusesSpec.pre6 enc Try.prog Try.f10 Rows.poolRefusesRow.domain false) (Rows.poolRefusesSpec.post enc Try.prog Try.f10 false true false false) :=
  law_lifted (C := Try.checked) (k := 9) (by kernel_rfl) started (by kernel_rfl) Try.func10
    (ChangeSpec.witness6 (enc := enc) (C := Try.checked) false ⟨#[], #[.slice none 0 0, .int .i16 0, .bool false], []⟩ 8 (by kernel_rfl) (by kernel_rfl) (by kernel_rfl) (by kernel_rfl))
    (by kernel_rfl) (by kernel_rfl) (u := 4) rfl Try.underlying4 rfl (fun ds h => by match ds, h with | [_, _, _], _ => rfl)
    (sound_law11_PoolRefuses NN) (by kernel_rfl) (fun x => by kernel_rfl) (fun x hx => plainRefuses x.1 x.2.1 x.2.2 hx.1 hx.2.1 hx.2.2)
theorem poolRefuses_holds : Rows.PoolRefusesSaid :=
  OpenClaim.holds_of_wide 10 Try.f10 rfl rfl rfl rfl rfl rfl rfl ⟨rfl, rfl, rfl, rfl, rfl⟩ rfl rfl rfl rfl rfl (by kernel_rfl) Try.func10 (by kernel_rfl)
    (of_decide_eq_true (by kernel_rfl)) (by unfold Func.isWrapper; first | (rw [if_pos (by decide +kernel)]; kernel_rfl) | (rw [if_neg (by decide +kernel)]; exact ⟨rfl, rfl⟩))
    (fun os started H enc _ => lifted10 os started H enc)
#print axioms poolRefuses_holds
end Go.Proofs.Ytobejbgkfmpoeaa
