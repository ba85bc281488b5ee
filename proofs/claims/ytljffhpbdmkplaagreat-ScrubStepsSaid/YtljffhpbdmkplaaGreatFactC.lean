/- The facts of the row. -/
import Derived.Test.YtljffhpbdmkplaaGreatRows
import Derived.Test.YtljffhpbdmkplaaGreatProg
import Derived.KernelRfl
import Derived.JoinedOf
import Derived.Test.YtljffhpbdmkplaaGreatFactB
set_option linter.all false
namespace Go.Proofs.YtljffhpbdmkplaaGreat
open Go
set_option maxRecDepth 100000
theorem yps:joinedFacts Tryz.prog 5 Tryz.f5 Rows.scrubStepsSpec Rows.scrubStepsRow=true:=by
 unfold joinedFacts
 rw[unf5,rec5,inp5,var5]
 kernel_rfl
end Go.Proofs.YtljffhpbdmkplaaGreat
