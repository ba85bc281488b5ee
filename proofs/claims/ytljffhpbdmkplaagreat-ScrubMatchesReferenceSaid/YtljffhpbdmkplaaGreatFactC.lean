/- The facts of the row. -/
import Derived.Test.YtljffhpbdmkplaaGreatRows
import Derived.Test.YtljffhpbdmkplaaGreatProg
import Derived.KernelRfl
import Derived.JoinedOf
import Derived.Test.YtljffhpbdmkplaaGreatFactB
set_option linter.all false
namespace Go.Proofs.YtljffhpbdmkplaaGreat
open Go
set_option maxRecDepth 100000
theorem yqt:joinedFacts Tryz.prog 3 Tryz.f3 Rows.scrubMatchesReferenceSpec Rows.scrubMatchesReferenceRow=true:=by
 unfold joinedFacts
 rw[unf3,rec3,inp3,var3]
 kernel_rfl
end Go.Proofs.YtljffhpbdmkplaaGreat
