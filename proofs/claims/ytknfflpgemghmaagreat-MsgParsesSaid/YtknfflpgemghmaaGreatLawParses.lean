/- MsgParses holds for every input: the program and the reference read the same from all bytes. No condition. -/
import Derived.Test.YtknfflpgemghmaaGreatDsChk
import Derived.Test.YtknfflpgemghmaaGreatDvJoin
import Derived.Test.YtknfflpgemghmaaGreatDsReads
import Derived.Test.YtknfflpgemghmaaGreatRows
set_option linter.all false
namespace Go.Proofs.YtknfflpgemghmaaGreat
open Go Go.Dv Ds
open Go.ChangeShapes Go.WideShapes Go.ChangeAt Go.RowKit

set_option maxRecDepth 100000 in
theorem lifted7 (os : Os) (started : os.Started) (H : Type) (enc : TypeId × Value → H) :
    ReturnsInHanded {} Tryz.checked os 7 .any (Rows.msgParsesSpec.pre6 enc Tryz.prog Tryz.f7 Rows.msgParsesRow.domain false) (Rows.msgParsesSpec.post enc Tryz.prog Tryz.f7 false true false false) :=
  law_lifted (C := Tryz.checked) (k := 9) (by kernel_rfl) started (by kernel_rfl) Tryz.func7
    (ChangeSpec.witness6 (enc := enc) (C := Tryz.checked) false ⟨#[], #[.agg #[.int .u8 0, .int .u8 0, .int .u8 0, .int .u8 0, .int .u8 0, .int .u8 0], .slice none 0 0, .agg #[.int .u8 0, .int .u8 0]], []⟩ 8 (by kernel_rfl) (by kernel_rfl) (by kernel_rfl) (by kernel_rfl))
    (by kernel_rfl) (by kernel_rfl) (u := 4) rfl Tryz.underlying4 rfl (fun ds h => by match ds, h with | [_, _, _], _ => rfl)
    (sound_law05_MsgParses NN) (by kernel_rfl) (fun x => by kernel_rfl) (fun x hx => plainParses x.1 x.2.1 x.2.2 hx.1 hx.2.1 hx.2.2)
theorem msgParses_holds : Rows.MsgParsesSaid :=
  OpenClaim.holds_of_wide 7 Tryz.f7 rfl rfl rfl rfl rfl rfl rfl ⟨rfl, rfl, rfl, rfl, rfl⟩ rfl rfl rfl rfl rfl (by kernel_rfl) Tryz.func7 (by kernel_rfl)
    (of_decide_eq_true (by kernel_rfl)) (by unfold Func.isWrapper; first | (rw [if_pos (by decide +kernel)]; kernel_rfl) | (rw [if_neg (by decide +kernel)]; exact ⟨rfl, rfl⟩))
    (fun os started H enc _ => lifted7 os started H enc)
#print axioms msgParses_holds
end Go.Proofs.YtknfflpgemghmaaGreat
