/- If a byte in the cell of a slot changes, this slot is bad, and no other one; if it is changed back, all are good. No condition. -/
import Derived.Test.YtljffhpbdmkplaaGreatDsChk
import Derived.Test.YtljffhpbdmkplaaGreatDvE
import Derived.Test.YtljffhpbdmkplaaGreatDsE
import Derived.Test.YtljffhpbdmkplaaGreatFactC
import Derived.Test.YtljffhpbdmkplaaGreatRows
set_option linter.all false
namespace Go.Proofs.YtljffhpbdmkplaaGreat
open Go Go.Dv Ds
open Go.ChangeShapes Go.WideShapes Go.ChangeAt Go.RowKit
set_option maxRecDepth 100000 in
theorem yo9(os:Os)(started:os.Started)(H:Type)(enc:TypeId×Value->H):
  ReturnsInHanded {} Tryz.checked os 7 .any (Rows.scrubRotSpec.pre6 enc Tryz.prog Tryz.f7 Rows.scrubRotRow.domain false) (Rows.scrubRotSpec.post enc Tryz.prog Tryz.f7 false true false false):=
 yap (C:=Tryz.checked) (k:=9) (by kernel_rfl) started (by kernel_rfl) Tryz.func7
  (ChangeSpec.witness6 (enc:=enc) (C:=Tryz.checked) false ⟨#[], #[.agg #[.int .u8 0, .slice none 0 0, .int .u8 0, .int .u8 0, .int .u8 0], .agg #[.int .u8 0, .int .u16 0, .int .u8 0]],[]⟩ 8 (by kernel_rfl) (by kernel_rfl) (by kernel_rfl) (by kernel_rfl))
  (by kernel_rfl) (by kernel_rfl) (u:=4) rfl Tryz.underlying4 rfl (fun ds h=>by match ds,h with | [_,_],_=>rfl)
  (zmd N0) (by kernel_rfl) (fun x=>by kernel_rfl) (fun x hx=>plainRotF x.1 x.2 hx.1 hx.2)
theorem scrubRot_holds:Rows.ScrubRotSaid:=
 OpenClaim.holds_of_wide 7 Tryz.f7 rfl rfl rfl rfl rfl rfl rfl ⟨rfl,rfl,rfl,rfl,rfl⟩ rfl rfl rfl rfl rfl (by kernel_rfl) Tryz.func7 yqw
  (of_decide_eq_true (by kernel_rfl)) (by unfold Func.isWrapper;first | (rw[if_pos (by decide+kernel)];kernel_rfl) | (rw[if_neg (by decide+kernel)];exact⟨rfl,rfl⟩))
  (fun os started H enc _=>yo9 os started H enc)
#print axioms scrubRot_holds
end Go.Proofs.YtljffhpbdmkplaaGreat
