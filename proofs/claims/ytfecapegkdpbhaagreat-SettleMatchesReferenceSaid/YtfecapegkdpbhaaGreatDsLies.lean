/- The reference's way of crossing is the program's, on made messages: finite looks. -/
import Derived.Test.YtfecapegkdpbhaaGreatDsIndex
set_option linter.all false
namespace Ds
open Go Go.Dv
set_option maxRecDepth 100000
set_option linter.unusedVariables false

/-- a span covers another one -/
def covB (a b : B × B) : Bool := (!(eqs b.2 []) && !(lts b.1 b.2)) || (hasB a b.1 && (eqs a.2 [] || (!(eqs b.2 []) && !(lts a.2 b.2))))
def liesC (e : B × B) (s : B × B) : Bool := covB s (preB e.1) && covB s (preB e.2)

theorem lies_eq {e : B × B} {s : B × B} (he : e ∈ ends) (hs : s ∈ areas) {k : Int} (hk : k = 4 ∨ k = 5) : route_lies NN (mv k e) s = some (liesC e s) ∧ ref08_Lies NN (mv k e) s = some (liesC e s) := by
  have h : (ends.all fun e => areas.all fun s => okO (route_lies NN (mv 4 e) s) fun a => okO (route_lies NN (mv 5 e) s) fun b => okO (ref08_Lies NN (mv 4 e) s) fun c => okO (ref08_Lies NN (mv 5 e) s) fun d => 
      eqb a (liesC e s) && (eqb b (liesC e s) && (eqb c (liesC e s) && eqb d (liesC e s)))) = true := by decide +kernel
  obtain ⟨a, h1, h⟩ := okO_some (List.all_eq_true.1 (List.all_eq_true.1 h e he) s hs)
  obtain ⟨b, h2, h⟩ := okO_some h
  obtain ⟨c, h3, h⟩ := okO_some h
  obtain ⟨d, h4, h⟩ := okO_some h
  simp only [Bool.and_eq_true, eqb, beq_iff_eq] at h
  obtain ⟨rfl, rfl, rfl, rfl⟩ := h
  rcases hk with rfl | rfl
  · exact ⟨h1, h3⟩
  · exact ⟨h2, h4⟩
end Ds
