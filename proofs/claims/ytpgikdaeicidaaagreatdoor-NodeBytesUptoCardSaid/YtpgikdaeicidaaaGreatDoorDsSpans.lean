/- NodeSpans: the spans of kids part the span of the node. -/
import Derived.Test.YtpgikdaeicidaaaGreatDoorDsMade
set_option linter.all false
namespace Ds
open Go Go.Dv
set_option maxRecDepth 100000
set_option linter.unusedVariables false
theorem sanity10 : law10_sanity NN = some true := by decide +kernel
end Ds
