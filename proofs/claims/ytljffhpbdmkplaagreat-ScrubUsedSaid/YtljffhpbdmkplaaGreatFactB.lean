/- What these functions are. -/
import Derived.Test.YtljffhpbdmkplaaGreatRows
import Derived.Test.YtljffhpbdmkplaaGreatProg
import Derived.KernelRfl
import Derived.JoinedOf
import Derived.Test.YtljffhpbdmkplaaGreatFactA
set_option linter.all false
namespace Go.Proofs.YtljffhpbdmkplaaGreat
open Go
set_option maxRecDepth 100000
theorem inp8:Tryz.prog.inPlace 8=[]:=by unfold Program.inPlace;rw[yzu];kernel_rfl
theorem var8:Tryz.prog.varsNamed 8=[]:=by unfold Program.varsNamed;rw[yzu];kernel_rfl
end Go.Proofs.YtljffhpbdmkplaaGreat
