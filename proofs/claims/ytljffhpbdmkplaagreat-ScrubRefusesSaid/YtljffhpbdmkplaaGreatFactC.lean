/- Printed by a program of the session's: what the program's functions compute, and that they do. -/
import Derived.Test.YtljffhpbdmkplaaGreatRows
import Derived.Test.YtljffhpbdmkplaaGreatProg
import Derived.KernelRfl
import Derived.JoinedOf
import Derived.Test.YtljffhpbdmkplaaGreatFactB
set_option linter.all false
namespace Go.Proofs.YtljffhpbdmkplaaGreat
open Go
set_option maxRecDepth 100000
theorem yob:joinedFacts Tryz.prog 6 Tryz.f6 Rows.scrubRefusesSpec Rows.scrubRefusesRow=true:=by
 unfold joinedFacts
 rw[unf6,rec6,inp6,var6]
 kernel_rfl
end Go.Proofs.YtljffhpbdmkplaaGreat
