/- Which functions the law reaches. -/
import Derived.Test.YtljffhpbdmkplaaGreatRows
import Derived.Test.YtljffhpbdmkplaaGreatProg
import Derived.KernelRfl
import Derived.JoinedOf
set_option linter.all false
namespace Go.Proofs.YtljffhpbdmkplaaGreat
open Go
set_option maxRecDepth 100000
theorem yn7:Tryz.prog.closure 7=[7,11,32,73,125,69,142,66,151,46,85,92,86,120,179,180,235,149,140,141,202,148,203,250,204,146,205,206,93,87,143,207,251,237,281,262,261,300,252,253,208,254,290,292,255,291,296,297,312,238,283,307,319,325,326,329,320,327,71,321,328,282,284,285,308,309,310,311,91,298,256,257,293,313,314,322,213,211,323,306,275,324,210,209,260,258,124,294,295,259,178,234,273,303,274,304,318,299,315,316,88,89,144,212,74,35,77,78,126,183,236,276,305,278,277,279,280,239,240,241,286,287,31,184,20,42,129,189,242,288,243,130,75,127,186,188,187,185,128,131,132,133,190,134,16,38,80,79,135,136,81,138,200,201,137,191,197,249,192,244,193,245,246,194,247,248,289,195,196,198,199,39,19,17,40,82,83,139,84,97,43,156,229,99,33,14,21,37,23,15,12,34,76,24,47,90,145,147,150,49,48,51,50,52,94,36,13,27,26,22,44,45]:=by kernel_rfl
theorem unf7:Tryz.prog.unfollowed 7=true:=by unfold Program.unfollowed;rw[yn7];kernel_rfl
theorem rec7:Tryz.prog.recurses 7=true:=by unfold Program.recurses;rw[unf7];rfl
end Go.Proofs.YtljffhpbdmkplaaGreat
