/- Printed by a program of the session's: what the program's functions compute, and that they do. -/
import Derived.Test.YtljffhpbdmkplaaGreatRows
import Derived.Test.YtljffhpbdmkplaaGreatProg
import Derived.KernelRfl
import Derived.JoinedOf
import Derived.Test.YtljffhpbdmkplaaGreatFactA
set_option linter.all false
namespace Go.Proofs.YtljffhpbdmkplaaGreat
open Go
set_option maxRecDepth 100000
theorem inp6:Tryz.prog.inPlace 6=[]:=by unfold Program.inPlace;rw[yko];kernel_rfl
theorem var6:Tryz.prog.varsNamed 6=[]:=by unfold Program.varsNamed;rw[yko];kernel_rfl
end Go.Proofs.YtljffhpbdmkplaaGreat
