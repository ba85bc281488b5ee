/- A walk that goes on after the forest was written, and another checkpoint was made, finds nothing bad. No condition. -/
import Derived.Test.YtljffhpbdmkplaaGreatDsChk
import Derived.Test.YtljffhpbdmkplaaGreatDvE
import Derived.Test.YtljffhpbdmkplaaGreatDsE
import Derived.Test.YtljffhpbdmkplaaGreatFactC
import Derived.Test.YtljffhpbdmkplaaGreatRows
set_option linter.all false
namespace Go.Proofs.YtljffhpbdmkplaaGreat
open Go Go.Dv Ds
open Go.ChangeShapes Go.WideShapes Go.ChangeAt Go.RowKit
set_option maxHeartbeats 4000000 in
set_option maxRecDepth 100000 in
theorem x1g(os:Os)(started:os.Started)(H:Type)(enc:TypeId×Value->H):
  ReturnsInHanded {} Tryz.checked os 8 .any (Rows.scrubUsedSpec.pre6 enc Tryz.prog Tryz.f8 Rows.scrubUsedRow.domain false) (Rows.scrubUsedSpec.post enc Tryz.prog Tryz.f8 false true false false):=
 ylu (C:=Tryz.checked) (k:=9) (by kernel_rfl) started (by kernel_rfl) Tryz.func8
  (ChangeSpec.witness6 (enc:=enc) (C:=Tryz.checked) false ⟨#[], #[.agg #[.int .u8 0, .slice none 0 0, .int .u8 0, .int .u8 0, .int .u8 0], .int .u8 0, .slice none 0 0],[]⟩ 8 (by kernel_rfl) (by kernel_rfl) (by kernel_rfl) (by kernel_rfl))
  (by kernel_rfl) (by kernel_rfl) (u:=4) rfl Tryz.underlying4 rfl (fun ds h=>by match ds,h with | [_,_,_],_=>rfl)
  (ztk N0) (by kernel_rfl) (fun x=>by kernel_rfl) (fun x hx=>Eq.trans (b:=z9p N0 x.1 x.2.1 x.2.2) (by kernel_rfl) (ypp x.1 x.2.1 x.2.2 (cast (by kernel_rfl) hx.1) (cast (by kernel_rfl) hx.2.1) (cast (by kernel_rfl) hx.2.2)))
theorem scrubUsed_holds:Rows.ScrubUsedSaid:=
 OpenClaim.holds_of_wide 8 Tryz.f8 rfl rfl rfl rfl rfl rfl rfl ⟨rfl,rfl,rfl,rfl,rfl⟩ rfl rfl rfl rfl rfl (by kernel_rfl) Tryz.func8 x5a
  (of_decide_eq_true (by kernel_rfl)) (by unfold Func.isWrapper;first | (rw[if_pos (by decide+kernel)];kernel_rfl) | (rw[if_neg (by decide+kernel)];exact⟨rfl,rfl⟩))
  (fun os started H enc _=>x1g os started H enc)
#print axioms scrubUsed_holds
end Go.Proofs.YtljffhpbdmkplaaGreat
