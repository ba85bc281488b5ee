/- What keys are. -/
import Derived.Test.YtmffojmbfphidaaDoorDsLimits
set_option linter.all false
namespace Ds
open Go Go.Dv
set_option maxRecDepth 100000
set_option linter.unusedVariables false

def blk (n : Int) : B := bytesU [2, IntKind.wrap .u8 (Int.fdiv n (2 ^ min (Int.toNat (8 : Int)) (IntKind.bits .i64))), IntKind.wrap .u8 n]
theorem blk_len (n : Int) : (blk n).length = 3 := rfl
/-- the key of a place whose path is right -/
def keyR (p : B) (t n : Int) (m : B) : Option B :=
  bif eqi t 1 then bif eqi n 0 && eqs m [] then some (p ++ [1]) else none else
  bif eqi t 2 then bif eqs m [] && (decide (0 ≤ n) && decide (n ≤ 60000)) then some (p ++ blk n) else none else
  bif eqi t 3 then bif eqi n 0 && nameB m then some (p ++ [3] ++ m) else none else
  bif eqi t 4 then bif eqi n 0 && eqs m [] then some ([6] ++ p ++ [1]) else none else none
def sumR (x : Option B) : ((B × Int) × Unit) ⊕ (Unit × Unit) := match x with | some k => .inl ((k, 0), ()) | none => .inr ((), ())

theorem eqi_23 {t : Int} (h : eqi t 1 = true) : eqi t 2 = false ∧ eqi t 3 = false ∧ eqi t 4 = false := by
  rw [eqi_iff.1 h]; exact ⟨rfl, rfl, rfl⟩
theorem Key_p1_no (p m : B) (t n : Int) : path_Key_p1 NN false p t n m p t 0 [] = some (.inr ((), ())) := rfl
theorem Key_p1 (p m : B) (t n : Int) (hp : p.length < 1000000) (hm : m.length < 4000000000000) : path_Key_p1 NN true p t n m p t 0 [] = some (sumR (keyR p t n m)) := by
  have g1 : ∀ {R : Type} (K : Option R), gd (decide (p.length + ([1] : B).length < maxS)) K = K := fun K => gd_p (by simp only [maxS, List.length_singleton]; omega) K
  have g3 : ∀ {R : Type} (K : Option R), gd (decide (p.length + ([3] : B).length < maxS)) K = K := fun K => gd_p (by simp only [maxS, List.length_singleton]; omega) K
  have g3' : ∀ {R : Type} (K : Option R), gd (decide ((p ++ ([3] : B)).length + m.length < maxS)) K = K := fun K => gd_p (by simp only [maxS, List.length_append, List.length_singleton]; omega) K
  have g6 : ∀ {R : Type} (K : Option R), gd (decide (([6] : B).length + p.length < maxS)) K = K := fun K => gd_p (by simp only [maxS, List.length_singleton]; omega) K
  have g6' : ∀ {R : Type} (K : Option R), gd (decide ((([6] : B) ++ p).length + ([1] : B).length < maxS)) K = K := fun K => gd_p (by simp only [maxS, List.length_append, List.length_singleton]; omega) K
  have g8 : ∀ {R : Type} (K : Option R), gd (decide (0 ≤ (8 : Int))) K = K := fun K => gd_p (by decide) K
  have gb : ∀ {R : Type} (K : Option R), gd (decide (p.length + (bytesU [(2 : Int), IntKind.wrap .u8 (Int.fdiv n (2 ^ min (Int.toNat (8 : Int)) (IntKind.bits .i64))), IntKind.wrap .u8 n]).length < maxS)) K = K := fun K => gd_p (by simp only [maxS, bytesU, List.length_map, List.length_cons, List.length_nil]; omega) K
  unfold keyR
  cases e1 : eqi t 1
  case true =>
    obtain ⟨e2, e3, e4⟩ := eqi_23 e1
    simp only [path_Key_p1, path_Key_p2, path_Key_p3, cond_true, cond_false, e1, e2, e3, e4, eqs_self, eqi_self, Bool.true_and, Bool.and_true, g1]
    cases eqi n 0 <;> cases eqs m [] <;> rfl
  case false =>
  cases e2 : eqi t 2
  case true =>
    have e3 : eqi t 3 = false := by rw [eqi_iff.1 e2]; rfl
    have e4 : eqi t 4 = false := by rw [eqi_iff.1 e2]; rfl
    simp only [path_Key_p1, path_Key_p2, path_Key_p3, cond_true, cond_false, e1, e2, e3, e4, g8, gb]
    cases eqs m [] <;> cases decide (0 ≤ n) <;> cases decide (n ≤ 60000) <;> rfl
  case false =>
  cases e3 : eqi t 3
  case true =>
    have e4 : eqi t 4 = false := by rw [eqi_iff.1 e3]; rfl
    simp only [path_Key_p1, path_Key_p2, path_Key_p3, cond_true, cond_false, e1, e2, e3, e4, isName_eq, g3, g3']
    cases eqi n 0 <;> cases nameB m <;> rfl
  case false =>
  cases e4 : eqi t 4
  case true =>
    simp only [path_Key_p1, path_Key_p2, path_Key_p3, cond_true, cond_false, e1, e2, e3, e4, eqs_self, eqi_self, Bool.true_and, Bool.and_true, g6, g6']
    cases eqi n 0 <;> cases eqs m [] <;> rfl
  case false =>
    simp only [path_Key_p1, path_Key_p2, path_Key_p3, cond_true, cond_false, e1, e2, e3, e4]
    rfl

def resR (x : Option B) : B × Int := match x with | some k => (k, 0) | none => ([], 12)
theorem Key_valid {p m : B} {t n : Int} (hv : validB p = true) (hp : p.length < 1000000) (hm : m.length < 4000000000000) : path_Key NN (p, t, n, m) = some (resR (keyR p t n m)) := by
  simp only [path_Key, Valid_eq hp, hv, cond_true, Key_p1 p m t n hp hm]
  cases keyR p t n m <;> rfl
end Ds
