/- ScrubSteps: it does not matter in which steps a walk is made: it ends as if it was made in one. No condition. -/
import Derived.Test.YtljffhpbdmkplaaGreatDsChk
import Derived.Test.YtljffhpbdmkplaaGreatDvE
import Derived.Test.YtljffhpbdmkplaaGreatDsE
import Derived.Test.YtljffhpbdmkplaaGreatFactC
import Derived.Test.YtljffhpbdmkplaaGreatRows
set_option linter.all false
namespace Go.Proofs.YtljffhpbdmkplaaGreat
open Go Go.Dv Ds
open Go.ChangeShapes Go.WideShapes Go.ChangeAt Go.RowKit
set_option maxRecDepth 100000 in
theorem yna(os:Os)(started:os.Started)(H:Type)(enc:TypeId×Value->H):
  ReturnsInHanded {} Tryz.checked os 5 .any (Rows.scrubStepsSpec.pre6 enc Tryz.prog Tryz.f5 Rows.scrubStepsRow.domain false) (Rows.scrubStepsSpec.post enc Tryz.prog Tryz.f5 false true false false):=
 ya8 (C:=Tryz.checked) (k:=9) (by kernel_rfl) started (by kernel_rfl) Tryz.func5
  (ChangeSpec.witness6 (enc:=enc) (C:=Tryz.checked) false ⟨#[], #[.agg #[.int .u8 0, .slice none 0 0, .int .u8 0, .int .u8 0, .int .u8 0], .agg #[.int .u8 0, .int .u16 0, .int .u8 0, .int .u8 0, .int .u16 0, .int .u8 0], .slice none 0 0],[]⟩ 8 (by kernel_rfl) (by kernel_rfl) (by kernel_rfl) (by kernel_rfl))
  (by kernel_rfl) (by kernel_rfl) (u:=4) rfl Tryz.underlying4 rfl (fun ds h=>by match ds,h with | [_,_,_],_=>rfl)
  (zk1 N0) (by kernel_rfl) (fun x=>by kernel_rfl) (fun x hx=>plainStepsF x.1 x.2.1 x.2.2 hx.1 hx.2.1 hx.2.2)
theorem scrubSteps_holds:Rows.ScrubStepsSaid:=
 OpenClaim.holds_of_wide 5 Tryz.f5 rfl rfl rfl rfl rfl rfl rfl ⟨rfl,rfl,rfl,rfl,rfl⟩ rfl rfl rfl rfl rfl (by kernel_rfl) Tryz.func5 yps
  (of_decide_eq_true (by kernel_rfl)) (by unfold Func.isWrapper;first | (rw[if_pos (by decide+kernel)];kernel_rfl) | (rw[if_neg (by decide+kernel)];exact⟨rfl,rfl⟩))
  (fun os started H enc _=>yna os started H enc)
#print axioms scrubSteps_holds
end Go.Proofs.YtljffhpbdmkplaaGreat
