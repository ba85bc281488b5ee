/- NodeSpans: the spans of kids part the span of the node. -/
import Derived.Test.YtpgikdaeicidaaaGreatDoorDsMade
set_option linter.all false
namespace Ds
open Go Go.Dv
set_option maxRecDepth 100000
set_option linter.unusedVariables false
def za4 (s : Sp) (lo : B) : List B → List Sp
  | [] => [yny s (lo, [])]
  | p :: r => yny s (lo, p) :: za4 s p r
theorem yyq (s : Sp) : ∀ (l : List B) (lo : B), (za4 s lo l).length = l.length + 1
  | [], _ => rfl
  | p :: r, _ => by simp [za4, yyq s r p]
theorem ymr (s : Sp) (k : B) : ∀ (l : List B) (lo hi : B), pivB lo hi l = true → ((za4 s lo l).filter fun x => hasB x k).length = bif hasB s k && !(lts k lo) then 1 else 0
  | [], lo, hi, _ => by
    have e : hasB (lo, []) k = !(lts k lo) := by rw [y83]; simp [belowB, eqs]
    simp only [za4, List.filter, x4h, e]
    cases (hasB s k && !(lts k lo)) <;> rfl
  | p :: r, lo, hi, h => by
    simp only [pivB, Bool.and_eq_true] at h
    have ih := ymr s k r p hi h.2.2
    have hp : eqs p [] = false := by cases p with
      | nil => rw [zz0] at h; cases h.1
      | cons _ _ => rfl
    have e : hasB (lo, p) k = (!(lts k lo) && lts k p) := by rw [y83]; simp [belowB, hp]
    simp only [za4, List.filter, x4h, e]
    cases h1 : lts k p
    · rw [h1] at ih
      have h2 : lts k lo = false := by
        cases h2 : lts k lo
        · rfl
        · rw [z0s h2 h.1] at h1; cases h1
      rw [h2]
      simp only [Bool.and_false]
      rw [ih]
    · rw [h1] at ih
      simp only [Bool.not_true, Bool.and_false, cond_false] at ih
      simp only [Bool.and_true]
      cases hasB s k && !(lts k lo)
      · simp only [cond_false]; exact ih
      · simp only [cond_true, List.length_cons, ih]
theorem x9v : zvb NN = some true := by decide +kernel
end Ds
