/- What these functions are. -/
import Derived.Test.YtljffhpbdmkplaaGreatRows
import Derived.Test.YtljffhpbdmkplaaGreatProg
import Derived.KernelRfl
import Derived.JoinedOf
import Derived.Test.YtljffhpbdmkplaaGreatFactA
set_option linter.all false
namespace Go.Proofs.YtljffhpbdmkplaaGreat
open Go
set_option maxRecDepth 100000
theorem inp7:Tryz.prog.inPlace 7=[]:=by unfold Program.inPlace;rw[yn7];kernel_rfl
theorem var7:Tryz.prog.varsNamed 7=[]:=by unfold Program.varsNamed;rw[yn7];kernel_rfl
end Go.Proofs.YtljffhpbdmkplaaGreat
