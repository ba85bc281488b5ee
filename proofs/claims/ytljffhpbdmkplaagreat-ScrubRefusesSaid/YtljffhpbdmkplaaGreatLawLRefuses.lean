/- ScrubRefuses: negative numbers are refused and change nothing; a walk that is done, and a step of no slots, do not change anything either. No condition. -/
import Derived.Test.YtljffhpbdmkplaaGreatDsChk
import Derived.Test.YtljffhpbdmkplaaGreatDvE
import Derived.Test.YtljffhpbdmkplaaGreatDsE
import Derived.Test.YtljffhpbdmkplaaGreatFactC
import Derived.Test.YtljffhpbdmkplaaGreatRows
set_option linter.all false
namespace Go.Proofs.YtljffhpbdmkplaaGreat
open Go Go.Dv Ds
open Go.ChangeShapes Go.WideShapes Go.ChangeAt Go.RowKit
set_option maxRecDepth 100000 in
theorem ylq(os:Os)(started:os.Started)(H:Type)(enc:TypeId×Value->H):
  ReturnsInHanded {} Tryz.checked os 6 .any (Rows.scrubRefusesSpec.pre6 enc Tryz.prog Tryz.f6 Rows.scrubRefusesRow.domain false) (Rows.scrubRefusesSpec.post enc Tryz.prog Tryz.f6 false true false false):=
 y8u (C:=Tryz.checked) (k:=9) (by kernel_rfl) started (by kernel_rfl) Tryz.func6
  (ChangeSpec.witness6 (enc:=enc) (C:=Tryz.checked) false ⟨#[], #[.agg #[.int .u8 0, .slice none 0 0, .int .u8 0, .int .u8 0, .int .u8 0], .int .i16 0],[]⟩ 8 (by kernel_rfl) (by kernel_rfl) (by kernel_rfl) (by kernel_rfl))
  (by kernel_rfl) (by kernel_rfl) (u:=4) rfl Tryz.underlying4 rfl (fun ds h=>by match ds,h with | [_,_],_=>rfl)
  (zhm N0) (by kernel_rfl) (fun x=>by kernel_rfl) (fun x hx=>plainRefusesF x.1 x.2 hx.1 hx.2)
theorem scrubRefuses_holds:Rows.ScrubRefusesSaid:=
 OpenClaim.holds_of_wide 6 Tryz.f6 rfl rfl rfl rfl rfl rfl rfl ⟨rfl,rfl,rfl,rfl,rfl⟩ rfl rfl rfl rfl rfl (by kernel_rfl) Tryz.func6 yob
  (of_decide_eq_true (by kernel_rfl)) (by unfold Func.isWrapper;first | (rw[if_pos (by decide+kernel)];kernel_rfl) | (rw[if_neg (by decide+kernel)];exact⟨rfl,rfl⟩))
  (fun os started H enc _=>ylq os started H enc)
#print axioms scrubRefuses_holds
end Go.Proofs.YtljffhpbdmkplaaGreat
