/- The plain law of PathBelow. -/
import Derived.Test.YtmffojmbfphidaaDoorDsJoins
set_option linter.all false
namespace Ds
open Go Go.Dv
set_option maxRecDepth 100000
set_option linter.unusedVariables false

theorem pre_trans {p q r : B} (h1 : q.isPrefixOf p = true) (h2 : r.isPrefixOf q = true) : r.isPrefixOf p = true :=
  List.isPrefixOf_iff_prefix.2 ((List.isPrefixOf_iff_prefix.1 h2).trans (List.isPrefixOf_iff_prefix.1 h1))
theorem pre_anti {p q : B} (h1 : q.isPrefixOf p = true) (h2 : p.isPrefixOf q = true) : p = q :=
  let a := List.isPrefixOf_iff_prefix.1 h1
  let b := List.isPrefixOf_iff_prefix.1 h2
  b.eq_of_length (Nat.le_antisymm b.length_le a.length_le)
theorem pre_two {p q r : B} (h1 : q.isPrefixOf p = true) (h2 : r.isPrefixOf p = true) (h3 : r.isPrefixOf q = false) : q.isPrefixOf r = true := by
  rcases List.prefix_or_prefix_of_prefix (List.isPrefixOf_iff_prefix.1 h1) (List.isPrefixOf_iff_prefix.1 h2) with h | h
  · exact List.isPrefixOf_iff_prefix.2 h
  · rw [List.isPrefixOf_iff_prefix.2 h] at h3; cases h3

theorem below_p0 {p q r : B} (hp : p.length < 1000) (hq : q.length < 1000) (hr : r.length < 1000) : law01_PathBelow_p0 NN true p q r = some (true, ()) := by
  have U := fun (a b : B) (h : a.length < 1000) => Under_eq a b (by omega)
  simp only [law01_PathBelow_p0, law01_PathBelow_p2, U p q hp, U q r hq, U p r hp, U r q hr]
  cases a : q.isPrefixOf p
  · rfl
  · cases b : r.isPrefixOf q
    · cases c : r.isPrefixOf p
      · rfl
      · rw [pre_two a c b]; rfl
    · rw [pre_trans a b]; rfl

theorem plainBelow (l : V_a3_s_uint8) (n : Int) (hl : okSh (.val T_a3_s_uint8) l) (hn : okSh (.int .u8) n) : law01_PathBelow NN l n = some true := by
  have h1 := u8s_of hl.1
  have h2 := u8s_of hl.2.1
  have h3 := u8s_of hl.2.2
  have h4 := u8_of_wf hn
  have l1 := madeP_len h1
  have l2 := madeP_len h2
  have l3 := madeP_len h3
  have U := fun (a b : B) (h : a.length < 1000) => Under_eq a b (by omega)
  have hpp : (madeP l.1).isPrefixOf (madeP l.1) = true := List.isPrefixOf_iff_prefix.2 (List.prefix_refl _)
  have hnil : ([] : B).isPrefixOf (madeP l.1) = true := rfl
  simp only [law01_PathBelow, sanity1, Made_eq h1, Made_eq h2, Made_eq h3]
  have t1 : 0 ≤ Int.tdiv n 2 ∧ Int.tdiv n 2 < 256 := by rw [Int.tdiv_eq_ediv_of_nonneg h4.1]; omega
  have t2 : 0 ≤ Int.tdiv n 8 ∧ Int.tdiv n 8 < 256 := by rw [Int.tdiv_eq_ediv_of_nonneg h4.1]; omega
  have w1 : IntKind.wrap .u8 (Int.tdiv n 2) = Int.tdiv n 2 := by rw [IntKind.wrap_u8]; omega
  have w2 : IntKind.wrap .u8 (Int.tdiv n 8) = Int.tdiv n 8 := by rw [IntKind.wrap_u8]; omega
  have w3 : IntKind.wrap .i64 (Int.tdiv n 2) = Int.tdiv n 2 := w64 (by omega) (by omega)
  have w4 : IntKind.wrap .i64 (Int.tdiv n 8) = Int.tdiv n 8 := w64 (by omega) (by omega)
  have m1 := Int.tmod_nonneg 4 t1.1
  have m2 := Int.tmod_nonneg 4 t2.1
  rw [w1, w2, w3, w4]
  generalize Int.tmod (Int.tdiv n 2) 4 = x at *
  generalize Int.tmod (Int.tdiv n 8) 4 = y at *
  have mn : ∀ x : Int, 0 ≤ x → ∃ i, (bif decide (x < (l.1.length : Int)) then x else (l.1.length : Int)) = i ∧ 0 ≤ i ∧ i ≤ l.1.length := by
    intro x hx
    cases q : decide (x < (l.1.length : Int))
    · exact ⟨(l.1.length : Int), rfl, by omega, by omega⟩
    · have := of_decide_eq_true q
      exact ⟨x, rfl, by omega, by omega⟩
  obtain ⟨i, ei, i0, i1⟩ := mn x m1
  obtain ⟨j, ej, j0, j1⟩ := mn y m2
  rw [ei, ej]
  have hc : ∀ i, U8s (cut2 l.1 (0 : Int) i) := fun i y hy => h1 y (List.mem_of_mem_drop (List.mem_of_mem_take hy))
  have go : ∀ q r : B, q.length ≤ 52 → r.length ≤ 52 →
      (q.isPrefixOf (madeP l.1) = true → (madeP l.1).isPrefixOf q = true → eqs (madeP l.1) q = true) ∧ law01_PathBelow_p0 NN true (madeP l.1) q r = some (true, ()) := fun q r hq hr =>
    ⟨fun a b => by rw [pre_anti a b, eqs_self], below_p0 (by omega) (by omega) (by omega)⟩
  cases eqi (Int.tmod n 2) 0
  · obtain ⟨g1, g2⟩ := go (madeP l.2.1) (madeP l.2.2) l2 l3
    simp only [cond_false, U (madeP l.1) (madeP l.1) (by omega), hpp, U (madeP l.1) [] (by omega), hnil, U (madeP l.1) (madeP l.2.1) (by omega), U (madeP l.2.1) (madeP l.1) (by omega), Bool.not_true]
    cases a : (madeP l.2.1).isPrefixOf (madeP l.1)
    · simp only [cond_false, law01_PathBelow_p1, g2]
    · cases b : (madeP l.1).isPrefixOf (madeP l.2.1)
      · simp only [cond_false, cond_true, law01_PathBelow_p1, g2]
      · simp only [cond_true, g1 a b, Bool.not_true, law01_PathBelow_p1, cond_false, g2]
  · have lq := madeP_len (hc i)
    have lr := madeP_len (hc j)
    obtain ⟨g1, g2⟩ := go (madeP (cut2 l.1 (0 : Int) i)) (madeP (cut2 l.1 (0 : Int) j)) lq lr
    simp only [cond_true, Made_eq (hc i), Made_eq (hc j)]
    rw [gd_t (by simp; omega), gd_t (by simp; omega)]
    simp only [U (madeP l.1) (madeP l.1) (by omega), hpp, U (madeP l.1) [] (by omega), hnil, U (madeP l.1) (madeP (cut2 l.1 (0 : Int) i)) (by omega), U (madeP (cut2 l.1 (0 : Int) i)) (madeP l.1) (by omega), Bool.not_true, cond_false]
    cases a : (madeP (cut2 l.1 (0 : Int) i)).isPrefixOf (madeP l.1)
    · simp only [cond_false, law01_PathBelow_p1, g2]
    · cases b : (madeP l.1).isPrefixOf (madeP (cut2 l.1 (0 : Int) i))
      · simp only [cond_false, cond_true, law01_PathBelow_p1, g2]
      · simp only [cond_true, g1 a b, Bool.not_true, law01_PathBelow_p1, cond_false, g2]
end Ds
