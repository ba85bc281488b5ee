/- Which made messages cross: finite looks. -/
import Derived.Test.YtfecapegkdpbhaaGreatDsSettled
set_option linter.all false
namespace Ds
open Go Go.Dv
set_option maxRecDepth 100000
set_option linter.unusedVariables false

def pivs : List B := [[], [97, 47], [97, 47, 2], [97, 47, 98, 47], [97, 47, 99], [98, 47], [98, 47, 1], [99, 47], [100, 47]]
def areas : List (B × B) := ([97], [97]) :: pivs.flatMap fun a => pivs.map fun b => (a, b)

def areaOk (ps : List B) : Bool := paths.all fun p => okO (route_Kid NN p ps) fun k => okO (route_area NN ps k) fun s => areas.contains s

theorem piv_ok {w : Int} (h0 : 0 ≤ w) (h1 : w < 256) : ∃ ps, law09_pivots NN w = some ps ∧ areaOk ps = true :=
  u8_opt (f := law09_pivots NN) (p := areaOk) (by decide +kernel) h0 h1

theorem lies_ok {e : B × B} {s : B × B} (he : e ∈ ends) (hs : s ∈ areas) : (∃ b, route_lies NN (mv 4 e) s = some b) ∧ ∃ b, route_lies NN (mv 5 e) s = some b := by
  have h : (ends.all fun e => areas.all fun s => okO (route_lies NN (mv 4 e) s) fun _ => okO (route_lies NN (mv 5 e) s) fun _ => true) = true := by decide +kernel
  obtain ⟨a, h1, h2⟩ := okO_some (List.all_eq_true.1 (List.all_eq_true.1 h e he) s hs)
  obtain ⟨b, h3, _⟩ := okO_some h2
  exact ⟨⟨a, h1⟩, b, h3⟩

theorem cross_ok {ps : List B} (hp : areaOk ps = true) {m : Ty.T T_api_Msg} (hm : Good m) : ∃ b, route_Crosses NN m ps = some b ∧ (b = true → ∃ e ∈ ends, m = mv 4 e ∨ m = mv 5 e) := by
  have area : ∀ e ∈ ends, ∃ k s, route_Kid NN e.1 ps = some k ∧ route_area NN ps k = some s ∧ s ∈ areas := by
    intro e he
    obtain ⟨k, h1, h2⟩ := okO_some (List.all_eq_true.1 hp e.1 (ends_path he).1)
    obtain ⟨s, h3, h4⟩ := okO_some h2
    exact ⟨k, s, h1, h3, (List.contains_iff_mem (α := B × B)).1 h4⟩
  cases hm with
  | put => exact ⟨false, rfl, fun h => by cases h⟩
  | del => exact ⟨false, rfl, fun h => by cases h⟩
  | drop => exact ⟨false, rfl, fun h => by cases h⟩
  | stamp => exact ⟨false, rfl, fun h => by cases h⟩
  | move e he =>
    obtain ⟨k, s, h1, h2, h3⟩ := area e he
    obtain ⟨b, hb⟩ := (lies_ok he h3).1
    refine ⟨!b, ?_, fun _ => ⟨e, he, .inl rfl⟩⟩
    have : route_moves NN (mv 4 e) = some true := rfl
    show route_Crosses NN (mv 4 e) ps = _
    simp only [route_Crosses, this, Bool.not_true, cond_false]
    simp only [mv] at hb ⊢
    simp only [h1, h2, hb]
  | clone e he =>
    obtain ⟨k, s, h1, h2, h3⟩ := area e he
    obtain ⟨b, hb⟩ := (lies_ok he h3).2
    refine ⟨!b, ?_, fun _ => ⟨e, he, .inr rfl⟩⟩
    have : route_moves NN (mv 5 e) = some true := rfl
    show route_Crosses NN (mv 5 e) ps = _
    simp only [route_Crosses, this, Bool.not_true, cond_false]
    simp only [mv] at hb ⊢
    simp only [h1, h2, hb]
end Ds
