/- ScrubMatchesReference: Begin, Step and Done return the results of the reference, for walks of a store in which bytes have changed, and for arbitrary walks. No condition. -/
import Derived.Test.YtljffhpbdmkplaaGreatDsChk
import Derived.Test.YtljffhpbdmkplaaGreatDvE
import Derived.Test.YtljffhpbdmkplaaGreatDsE
import Derived.Test.YtljffhpbdmkplaaGreatFactC
import Derived.Test.YtljffhpbdmkplaaGreatRows
set_option linter.all false
namespace Go.Proofs.YtljffhpbdmkplaaGreat
open Go Go.Dv Ds
open Go.ChangeShapes Go.WideShapes Go.ChangeAt Go.RowKit
set_option maxRecDepth 100000 in
theorem yo9(os:Os)(started:os.Started)(H:Type)(enc:TypeId×Value->H):
  ReturnsInHanded {} Tryz.checked os 3 .any (Rows.scrubMatchesReferenceSpec.pre6 enc Tryz.prog Tryz.f3 Rows.scrubMatchesReferenceRow.domain false) (Rows.scrubMatchesReferenceSpec.post enc Tryz.prog Tryz.f3 false true false false):=
 yav (C:=Tryz.checked) (k:=9) (by kernel_rfl) started (by kernel_rfl) Tryz.func3
  (ChangeSpec.witness6 (enc:=enc) (C:=Tryz.checked) false ⟨#[], #[.agg #[.int .u8 0, .slice none 0 0, .int .u8 0, .int .u8 0, .int .u8 0], .slice none 0 0, .agg #[.slice none 0 0, .slice none 0 0, .int .i64 0]],[]⟩ 8 (by kernel_rfl) (by kernel_rfl) (by kernel_rfl) (by kernel_rfl))
  (by kernel_rfl) (by kernel_rfl) (u:=4) rfl Tryz.underlying4 rfl (fun ds h=>by match ds,h with | [_,_,_],_=>rfl)
  (zb5 N0) (by kernel_rfl) (fun x=>by kernel_rfl) (fun x hx=>plainMatchesReferenceF x.1 x.2.1 x.2.2 hx.1 hx.2.1 hx.2.2)
theorem scrubMatchesReference_holds:Rows.ScrubMatchesReferenceSaid:=
 OpenClaim.holds_of_wide 3 Tryz.f3 rfl rfl rfl rfl rfl rfl rfl ⟨rfl,rfl,rfl,rfl,rfl⟩ rfl rfl rfl rfl rfl (by kernel_rfl) Tryz.func3 yqt
  (of_decide_eq_true (by kernel_rfl)) (by unfold Func.isWrapper;first | (rw[if_pos (by decide+kernel)];kernel_rfl) | (rw[if_neg (by decide+kernel)];exact⟨rfl,rfl⟩))
  (fun os started H enc _=>yo9 os started H enc)
#print axioms scrubMatchesReference_holds
end Go.Proofs.YtljffhpbdmkplaaGreat
