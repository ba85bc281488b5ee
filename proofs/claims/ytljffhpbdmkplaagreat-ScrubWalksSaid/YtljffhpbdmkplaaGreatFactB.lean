/- What these functions are. -/
import Derived.Test.YtljffhpbdmkplaaGreatRows
import Derived.Test.YtljffhpbdmkplaaGreatProg
import Derived.KernelRfl
import Derived.JoinedOf
import Derived.Test.YtljffhpbdmkplaaGreatFactA
set_option linter.all false
namespace Go.Proofs.YtljffhpbdmkplaaGreat
open Go
set_option maxRecDepth 100000
theorem inp4:Tryz.prog.inPlace 4=[]:=by unfold Program.inPlace;rw[ymf];kernel_rfl
theorem var4:Tryz.prog.varsNamed 4=[]:=by unfold Program.varsNamed;rw[ymf];kernel_rfl
end Go.Proofs.YtljffhpbdmkplaaGreat
