/- What these functions are. -/
import Derived.Test.YtljffhpbdmkplaaGreatRows
import Derived.Test.YtljffhpbdmkplaaGreatProg
import Derived.KernelRfl
import Derived.JoinedOf
import Derived.Test.YtljffhpbdmkplaaGreatFactA
set_option linter.all false
namespace Go.Proofs.YtljffhpbdmkplaaGreat
open Go
set_option maxRecDepth 100000
theorem inp5:Tryz.prog.inPlace 5=[]:=by unfold Program.inPlace;rw[ym8];kernel_rfl
theorem var5:Tryz.prog.varsNamed 5=[]:=by unfold Program.varsNamed;rw[ym8];kernel_rfl
end Go.Proofs.YtljffhpbdmkplaaGreat
