/- The facts of the row. -/
import Derived.Test.YtljffhpbdmkplaaGreatRows
import Derived.Test.YtljffhpbdmkplaaGreatProg
import Derived.KernelRfl
import Derived.JoinedOf
import Derived.Test.YtljffhpbdmkplaaGreatFactB
set_option linter.all false
namespace Go.Proofs.YtljffhpbdmkplaaGreat
open Go
set_option maxRecDepth 100000
theorem yqw:joinedFacts Tryz.prog 7 Tryz.f7 Rows.scrubRotSpec Rows.scrubRotRow=true:=by
 unfold joinedFacts
 rw[unf7,rec7,inp7,var7]
 kernel_rfl
end Go.Proofs.YtljffhpbdmkplaaGreat
