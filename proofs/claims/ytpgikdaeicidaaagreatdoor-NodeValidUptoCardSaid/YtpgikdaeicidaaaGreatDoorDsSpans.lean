/- NodeSpans: the spans of kids part the span of the node. -/
import Derived.Test.YtpgikdaeicidaaaGreatDoorDsMade
set_option linter.all false
namespace Ds
open Go Go.Dv
set_option maxRecDepth 100000
set_option linter.unusedVariables false

/-! ## spans by two bytes -/
theorem pref_ok {n : Int} (h0 : 0 ≤ n) (h1 : n < 256) : ∃ p, ref04_Prefix NN n = some p ∧ Nat.ble p.length 10 = true :=
  u8_opt (f := fun n => ref04_Prefix NN n) (p := fun p => Nat.ble p.length 10) (by decide +kernel) h0 h1
theorem span_ok4 {w : V_a2_uint8} (h : (0 : Int) ≤ w.1 ∧ w.1 < 256) (g : (0 : Int) ≤ w.2 ∧ w.2 < 256) : ∃ s, ref04_Span NN w = some s := by
  obtain ⟨a, h1, a1⟩ := tkey_ok h.1 h.2
  obtain ⟨b, h2, b1⟩ := tkey_ok g.1 g.2
  obtain ⟨c, h3, c1⟩ := pref_ok h.1 h.2
  have la := tkey_len a1
  have lc := Nat.le_of_ble_eq_true c1
  unfold ref04_Span
  rw [h1, h2]
  simp only
  rw [h3]
  simp only
  rw [gd_p (by simp only [maxS, List.length_cons, List.length_nil]; omega), gd_p (by simp only [maxS, List.length_cons, List.length_nil]; omega)]
  cases decide ((200 : Int) ≤ w.1) <;> cases decide ((200 : Int) ≤ w.2) <;> cases decide ((240 : Int) ≤ w.2) <;> exact ⟨_, rfl⟩

/-! ## parts of a span -/
theorem sanity10 : law10_sanity NN = some true := by decide +kernel
end Ds
