/- MsgValid holds for every input: a message and its reference agree on which are valid and on their bytes. No condition. -/
import Derived.Test.YtknfflpgemghmaaGreatDsChk
import Derived.Test.YtknfflpgemghmaaGreatDvJoin
import Derived.Test.YtknfflpgemghmaaGreatDsBytes
import Derived.Test.YtknfflpgemghmaaGreatRows
set_option linter.all false
namespace Go.Proofs.YtknfflpgemghmaaGreat
open Go Go.Dv Ds
open Go.ChangeShapes Go.WideShapes Go.ChangeAt Go.RowKit

set_option maxRecDepth 100000 in
theorem lifted3 (os : Os) (started : os.Started) (H : Type) (enc : TypeId × Value → H) :
    ReturnsInHanded {} Tryz.checked os 3 .any (Rows.msgValidSpec.pre6 enc Tryz.prog Tryz.f3 Rows.msgValidRow.domain false) (Rows.msgValidSpec.post enc Tryz.prog Tryz.f3 false true false false) :=
  law_lifted (C := Tryz.checked) (k := 9) (by kernel_rfl) started (by kernel_rfl) Tryz.func3
    (ChangeSpec.witness6 (enc := enc) (C := Tryz.checked) false ⟨#[], #[.agg #[.int .i64 0, .string ByteArray.empty, .string ByteArray.empty, .string ByteArray.empty, .string ByteArray.empty, .string ByteArray.empty, .string ByteArray.empty, .int .i64 0], .agg #[.int .u8 0, .int .u8 0, .int .u8 0, .int .u8 0, .int .u8 0, .int .u8 0], .agg #[.int .i32 0, .int .i32 0]], []⟩ 8 (by kernel_rfl) (by kernel_rfl) (by kernel_rfl) (by kernel_rfl))
    (by kernel_rfl) (by kernel_rfl) (u := 4) rfl Tryz.underlying4 rfl (fun ds h => by match ds, h with | [_, _, _], _ => rfl)
    (sound_law05_MsgValid NN) (by kernel_rfl) (fun x => by kernel_rfl) (fun x hx => plainValid x.1 x.2.1 x.2.2 hx.1 hx.2.1 hx.2.2)
theorem msgValid_holds : Rows.MsgValidSaid :=
  OpenClaim.holds_of_wide 3 Tryz.f3 rfl rfl rfl rfl rfl rfl rfl ⟨rfl, rfl, rfl, rfl, rfl⟩ rfl rfl rfl rfl rfl (by kernel_rfl) Tryz.func3 (by kernel_rfl)
    (of_decide_eq_true (by kernel_rfl)) (by unfold Func.isWrapper; first | (rw [if_pos (by decide +kernel)]; kernel_rfl) | (rw [if_neg (by decide +kernel)]; exact ⟨rfl, rfl⟩))
    (fun os started H enc _ => lifted3 os started H enc)
#print axioms msgValid_holds
end Go.Proofs.YtknfflpgemghmaaGreat
