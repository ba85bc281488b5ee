/- The plain law of PathTyped. -/
import Derived.Test.YtmffojmbfphidaaDoorDsPaths
set_option linter.all false
namespace Ds
open Go Go.Dv
set_option maxRecDepth 100000
set_option linter.unusedVariables false

theorem snoc_cases (s : B) : s = [] ∨ ∃ t c, s = t ++ [c] := by
  rcases List.eq_nil_or_concat s with h | ⟨t, c, h⟩
  · exact .inl h
  · exact .inr ⟨t, c, by simpa using h⟩
theorem spl_snd : ∀ (s : B), ∃ a, s = a ++ (spl s).2 ∧ 47 ∉ (spl s).2 ∧ (a = [] ∨ ∃ t, a = t ++ [47])
  | [] => ⟨[], rfl, by simp [spl], .inl rfl⟩
  | b :: l => by
    obtain ⟨a, h1, h2, h3⟩ := spl_snd l
    by_cases e : b = 47
    · have e1 : (b == 47) = true := by simp [e]
      simp only [spl, e1, cond_true]
      refine ⟨b :: a, by rw [List.cons_append, ← h1], h2, .inr ?_⟩
      rcases h3 with rfl | ⟨t, rfl⟩
      · exact ⟨[], by rw [e]; rfl⟩
      · exact ⟨b :: t, rfl⟩
    · have e1 : (b == 47) = false := by simp [e]
      simp only [spl, e1, cond_false]
      cases hn : (spl l).1 with
      | nil =>
        have hl : 47 ∉ l := by
          intro hm
          rcases sl_cases l with h | ⟨x, t, h4, h5⟩
          · exact h hm
          · rw [h5, spl_mid h4] at hn; cases hn
        rw [spl_none hl]
        exact ⟨[], rfl, by simp; exact ⟨fun h => e h.symm, hl⟩, .inl rfl⟩
      | cons n ns =>
        refine ⟨b :: a, by rw [List.cons_append, ← h1], h2, .inr ?_⟩
        rcases h3 with rfl | ⟨t, rfl⟩
        · exfalso
          have := h1
          simp only [List.nil_append] at this
          rw [← this] at h2
          rw [spl_none h2] at hn; cases hn
        · exact ⟨b :: t, rfl⟩
/-- a path ends with a slash -/
theorem valid_end {s : B} (h : validB s = true) : s = [] ∨ ∃ t, s = t ++ [47] := by
  unfold validB at h
  simp only [Bool.and_eq_true, List.isEmpty_iff] at h
  obtain ⟨a, h1, _, h3⟩ := spl_snd s
  rw [h.2, List.append_nil] at h1
  rw [h1]; exact h3

theorem u8s_of {l : List Int} (h : okSh (.list (.int .u8)) l) : U8s l := by
  intro x hx
  obtain ⟨i, hi, rfl⟩ := List.getElem_of_mem hx
  exact u8_of_wf (h.2 i _ (List.getElem?_eq_getElem hi))

theorem plainTyped (l : List Int) (s : List UInt8) (hl : okSh (.list (.int .u8)) l) (hs : okSh .str s) : law01_PathTyped NN l s = some true := by
  have hu := u8s_of hl
  have hp := madeP_len hu
  have hv := madeP_valid hu
  simp only [law01_PathTyped, sanity1, Made_eq hu]
  cases e : decide ((220 : Int) < (s.length : Int))
  · have e := of_decide_eq_false e
    simp only [cond_false]
    have h1 : ∃ t, path_Text NN (madeP l) = some t ∧ path_Parse NN t = some (madeP l, 0) := by
      rcases valid_end hv with h | ⟨t, h⟩
      · exact ⟨[47], by rw [h]; rfl, by rw [h]; rfl⟩
      · rw [h] at hv hp ⊢
        simp only [List.length_append, List.length_singleton] at hp
        by_cases ht : t = []
        · rw [ht] at hv
          exact absurd hv (by decide)
        · refine ⟨_, Text_sl t (by omega), ?_⟩
          have d : decide ((200 : Int) < ((47 :: t).length : Int)) = false := by simp; omega
          rw [Parse_sl t (by omega) ht, d, hv]; rfl
    obtain ⟨t, h1, h2⟩ := h1
    simp only [h1, h2, eqi_self, eqs_self, Bool.not_true, cond_false]
    have z : eqi (0 : Int) 10 = false := rfl
    rcases pre_cases s with h | ⟨t, rfl⟩
    · simp only [Parse_no h (by omega), eqi_self, eqs_self, cond_true]
    · by_cases ht : t = []
      · rw [ht]; rfl
      · simp only [List.length_cons] at e
        rw [Parse_sl t (by omega) ht]
        cases e2 : decide ((200 : Int) < ((47 :: t).length : Int))
        · simp only [cond_false]
          cases e3 : validB (t ++ [47])
          · simp only [cond_false, eqi_self, eqs_self, cond_true]
          · simp only [cond_true, z, eqi_self, cond_false, Valid_eq (s := t ++ [47]) (by simp; omega), e3, Text_sl t (by omega), eqs_self]
        · simp only [cond_true, eqi_self, eqs_self]
  · rfl
end Ds
