/- The facts of the row. -/
import Derived.Test.YtljffhpbdmkplaaGreatRows
import Derived.Test.YtljffhpbdmkplaaGreatProg
import Derived.KernelRfl
import Derived.JoinedOf
import Derived.Test.YtljffhpbdmkplaaGreatFactB
set_option linter.all false
namespace Go.Proofs.YtljffhpbdmkplaaGreat
open Go
set_option maxRecDepth 100000
theorem ypz:joinedFacts Tryz.prog 4 Tryz.f4 Rows.scrubWalksSpec Rows.scrubWalksRow=true:=by
 unfold joinedFacts
 rw[unf4,rec4,inp4,var4]
 kernel_rfl
end Go.Proofs.YtljffhpbdmkplaaGreat
