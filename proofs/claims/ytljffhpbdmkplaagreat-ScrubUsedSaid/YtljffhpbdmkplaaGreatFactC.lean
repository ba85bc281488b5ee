/- The facts of the row. -/
import Derived.Test.YtljffhpbdmkplaaGreatRows
import Derived.Test.YtljffhpbdmkplaaGreatProg
import Derived.KernelRfl
import Derived.JoinedOf
import Derived.Test.YtljffhpbdmkplaaGreatFactB
set_option linter.all false
namespace Go.Proofs.YtljffhpbdmkplaaGreat
open Go
set_option maxRecDepth 100000
theorem x5a:joinedFacts Tryz.prog 8 Tryz.f8 Rows.scrubUsedSpec Rows.scrubUsedRow=true:=by unfold joinedFacts;rw[unf8,rec8,inp8,var8];kernel_rfl
end Go.Proofs.YtljffhpbdmkplaaGreat
