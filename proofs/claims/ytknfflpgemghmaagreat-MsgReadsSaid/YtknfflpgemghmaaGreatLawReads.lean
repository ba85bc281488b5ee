/- MsgReads holds for every input: what a message writes hangs on what it reads alone. No condition. -/
import Derived.Test.YtknfflpgemghmaaGreatDsChk
import Derived.Test.YtknfflpgemghmaaGreatDvJoin
import Derived.Test.YtknfflpgemghmaaGreatDsLaws
import Derived.Test.YtknfflpgemghmaaGreatRows
set_option linter.all false
namespace Go.Proofs.YtknfflpgemghmaaGreat
open Go Go.Dv Ds
open Go.ChangeShapes Go.WideShapes Go.ChangeAt Go.RowKit

set_option maxRecDepth 100000 in
theorem lifted5 (os : Os) (started : os.Started) (H : Type) (enc : TypeId × Value → H) :
    ReturnsInHanded {} Tryz.checked os 5 .any (Rows.msgReadsSpec.pre6 enc Tryz.prog Tryz.f5 Rows.msgReadsRow.domain false) (Rows.msgReadsSpec.post enc Tryz.prog Tryz.f5 false true false false) :=
  law_lifted (C := Tryz.checked) (k := 9) (by kernel_rfl) started (by kernel_rfl) Tryz.func5
    (ChangeSpec.witness6 (enc := enc) (C := Tryz.checked) false ⟨#[], #[.slice none 0 0, .slice none 0 0, .agg #[.int .u8 0, .int .u8 0, .int .u8 0, .int .u8 0, .int .u8 0, .int .u8 0]], []⟩ 8 (by kernel_rfl) (by kernel_rfl) (by kernel_rfl) (by kernel_rfl))
    (by kernel_rfl) (by kernel_rfl) (u := 4) rfl Tryz.underlying4 rfl (fun ds h => by match ds, h with | [_, _, _], _ => rfl)
    (sound_law05_MsgReads NN) (by kernel_rfl) (fun x => by kernel_rfl) (fun x hx => plainReads x.1 x.2.1 x.2.2 hx.1 hx.2.1 hx.2.2)
theorem msgReads_holds : Rows.MsgReadsSaid :=
  OpenClaim.holds_of_wide 5 Tryz.f5 rfl rfl rfl rfl rfl rfl rfl ⟨rfl, rfl, rfl, rfl, rfl⟩ rfl rfl rfl rfl rfl (by kernel_rfl) Tryz.func5 (by kernel_rfl)
    (of_decide_eq_true (by kernel_rfl)) (by unfold Func.isWrapper; first | (rw [if_pos (by decide +kernel)]; kernel_rfl) | (rw [if_neg (by decide +kernel)]; exact ⟨rfl, rfl⟩))
    (fun os started H enc _ => lifted5 os started H enc)
#print axioms msgReads_holds
end Go.Proofs.YtknfflpgemghmaaGreat
