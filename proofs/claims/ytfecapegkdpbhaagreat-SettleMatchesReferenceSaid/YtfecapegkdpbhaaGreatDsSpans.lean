/- The reference's way of crossing is the program's, on made messages. -/
import Derived.Test.YtfecapegkdpbhaaGreatDsLies
set_option linter.all false
namespace Ds
open Go Go.Dv
set_option maxRecDepth 100000
set_option linter.unusedVariables false

def spansOk (ps : List B) : Bool := okO (ref08_Spans NN ps) fun l => Nat.ble l.length 9 && (List.all l fun s => areas.contains s) && paths.all fun p => okO (route_Kid NN p ps) fun k => okO (route_area NN ps k) fun s =>
  areas.contains s && ends.all fun e => bif eqs e.1 p then eqb (List.any l (liesC e)) (liesC e s) else true

theorem spans_ok {w : Int} (h0 : 0 ≤ w) (h1 : w < 256) : ∃ ps, law09_pivots NN w = some ps ∧ spansOk ps = true :=
  u8_opt (f := law09_pivots NN) (p := spansOk) (by decide +kernel) h0 h1
end Ds
