/- Which beginnings of keys are alike: what is charged stays, if one is put in the place of another. -/
import Derived.Test.YtpgikdaeicidaaaGreatDoorDsTotals
set_option linter.all false
namespace Ds.Pa
open Go Go.Dv Ds
set_option maxRecDepth 100000
set_option linter.unusedVariables false
theorem xd1 {s : B} (h : nameB s = true) : 47 ∉ s := fun hm => by
  have := List.all_eq_true.1 (yvh h) 47 hm
  revert this; decide
theorem xcm {l : List B} (h : ∀ n ∈ l, 47 ∉ n) (t : B) : spl (y74 l ++ t) = (l ++ (spl t).1, (spl t).2) := by
  induction l with
  | nil => simp [y74]
  | cons n l ih =>
    rw [zni, List.append_assoc, List.cons_append, yu7 (h n (by simp)), ih fun m hm => h m (by simp [hm])]
    simp
theorem yyi {l : List B} (h : ∀ n ∈ l, nameB n = true) (t : B) : validB (y74 l ++ t) = validB t := by
  unfold validB
  rw [xcm fun n hn => xd1 (h n hn)]
  simp only [List.all_append]
  rw [List.all_eq_true.2 h, Bool.true_and]
theorem x1h {p r q s : B} {c : UInt8} (hp : low p) (hc : c.toNat ≤ 3) (e : p ++ r = q ++ c :: s) : ∃ a, q = p ++ a ∧ r = a ++ c :: s := by
  rcases List.append_eq_append_iff.1 e with ⟨a, h1, h2⟩ | ⟨a, h1, h2⟩
  · exact ⟨a, h1, h2⟩
  · cases a with
    | nil => simp at h1 h2; exact ⟨[], by simp [h1], by simp [h2]⟩
    | cons x a =>
      simp only [List.cons_append, List.cons.injEq] at h2
      have := hp x (by rw [h1]; simp)
      rw [← h2.1] at this; omega
theorem xbp {p : B} (h : validB p = true ∨ z83 p = true) : low p := (zgb h).low
def x6j (p q : B) : Prop := ∀ (r x m : B) (t n : Int), KeyIs (p ++ r) x t n m → ∃ y, KeyIs (q ++ r) y t n m
theorem x3p {p q : B} (hp : low p) (h6 : ∃ a s, p = a :: s ∧ a ≠ 6) (hv : ∀ a, (validB (p ++ a) = true ∨ z83 (p ++ a) = true) → (validB (q ++ a) = true ∨ z83 (q ++ a) = true)) : x6j p q := by
  intro r x m t n h
  cases h with
  | entry h e =>
    obtain ⟨a, rfl, rfl⟩ := x1h hp (by decide) e
    exact ⟨_, .entry (hv a h) (by simp)⟩
  | block h hn e =>
    rw [blk_nat hn] at e
    obtain ⟨a, rfl, rfl⟩ := x1h hp (by decide) e
    exact ⟨_, .block (hv a h) hn (by rw [blk_nat hn]; simp)⟩
  | attr h hm e =>
    obtain ⟨a, rfl, rfl⟩ := x1h hp (by decide) e
    exact ⟨_, .attr (hv a h) hm (by simp)⟩
  | link h e =>
    obtain ⟨a, s, rfl, ha⟩ := h6
    simp only [List.cons_append, List.nil_append, List.cons.injEq] at e
    exact absurd e.1 ha
theorem low6 {p : B} (h : validB p = true ∨ z83 p = true) (hne : p ≠ []) : ∃ a s, p = a :: s ∧ a ≠ 6 := by
  rcases (zgb h).h6 with g | g
  · exact absurd g hne
  · exact g
theorem ydb {p : B} (h : z83 p = true) : ∃ s, p = 5 :: s ∧ s.length = 9 := by
  obtain ⟨j, _, _, rfl⟩ := x7w h
  exact ⟨_, rfl, by simp [z83, eqi] at h; have := h.1; simp [ze2] at this ⊢; omega⟩
theorem yu2 {s : B} : validB (5 :: s) = false := by
  cases e : validB (5 :: s)
  · rfl
  · have := yyh e 5 (by simp); exact absurd this (by decide)
theorem yu4 {p q : B} (hp : validB p = true) (hq : validB q = true) (hne : p ≠ []) (hne' : q ≠ []) : x6j p q := by
  refine x3p (xbp (.inl hp)) (low6 (.inl hp) hne) fun a h => ?_
  obtain ⟨l, hl, rfl⟩ := y2y hp
  obtain ⟨l', hl', rfl⟩ := y2y hq
  rcases h with h | h
  · left; rw [yyi hl] at h; rw [yyi hl']; exact h
  · obtain ⟨s, e, _⟩ := ydb h
    have := low6 (.inl hp) hne
    cases hj : y74 l with
    | nil => exact absurd hj hne
    | cons b t =>
      rw [hj] at e hp
      simp only [List.cons_append, List.cons.injEq] at e
      rw [e.1, yu2] at hp; cases hp
theorem yu5 {p q : B} (hp : z83 p = true) (hq : z83 q = true) : x6j p q := by
  obtain ⟨s, rfl, hs⟩ := ydb hp
  refine x3p (xbp (.inr hp)) ⟨5, s, rfl, by decide⟩ fun a h => ?_
  rcases h with h | h
  · rw [List.cons_append, yu2] at h; cases h
  · obtain ⟨s', e, hs'⟩ := ydb h
    simp only [List.cons_append, List.cons.injEq, true_and] at e
    have : a = [] := by
      rw [← e] at hs'; simp at hs'; exact List.length_eq_zero_iff.1 (by omega)
    subst this
    right; rw [List.append_nil]; exact hq
theorem y87 {k p m : B} {t n : Int} (h : KeyIs k p t n m) (hl : k.length < 600000000) : entK k = eqi t 1 ∧ byK k = (!(eqi t 1) && !(eqi t 4)) := by
  unfold entK byK
  rw [Place_yes h hl]
  exact ⟨rfl, rfl⟩
theorem yl5 {k : B} (h : ∀ p t n m, ¬ KeyIs k p t n m) (hl : k.length < 600000000) : entK k = false ∧ byK k = false := by
  unfold entK byK
  rw [Place_no h hl]
  exact ⟨rfl, rfl⟩
theorem x6x {p q r : B} (h1 : x6j p q) (h2 : x6j q p) (hl : (p ++ r).length < 600000000) (hl' : (q ++ r).length < 600000000) : entK (q ++ r) = entK (p ++ r) ∧ byK (q ++ r) = byK (p ++ r) := by
  by_cases hk : ∃ x t n m, KeyIs (p ++ r) x t n m
  · obtain ⟨x, t, n, m, h⟩ := hk
    obtain ⟨y, h'⟩ := h1 r x m t n h
    rw [(y87 h hl).1, (y87 h hl).2, (y87 h' hl').1, (y87 h' hl').2]
    exact ⟨rfl, rfl⟩
  · have g1 : ∀ x t n m, ¬ KeyIs (p ++ r) x t n m := fun x t n m g => hk ⟨x, t, n, m, g⟩
    have g2 : ∀ x t n m, ¬ KeyIs (q ++ r) x t n m := fun x t n m g => by
      obtain ⟨y, g'⟩ := h2 r x m t n g
      exact g1 _ _ _ _ g'
    rw [(yl5 g1 hl).1, (yl5 g1 hl).2, (yl5 g2 hl').1, (yl5 g2 hl').2]
    exact ⟨rfl, rfl⟩
theorem x7b {s : B} (hl : (6 :: s).length < 600000000) : entK (6 :: s) = false ∧ byK (6 :: s) = false := by
  by_cases hk : ∃ x t n m, KeyIs (6 :: s) x t n m
  · obtain ⟨x, t, n, m, h⟩ := hk
    have : t = 4 := by
      have no : ∀ {x s' : B} {c : UInt8}, (validB x = true ∨ z83 x = true) → c ≠ 6 → 6 :: s = x ++ c :: s' → False := by
        intro x s' c h hc e
        rcases (zgb h).h6 with rfl | ⟨a, t, rfl, ha⟩
        · simp only [List.nil_append, List.cons.injEq] at e; exact hc e.1.symm
        · simp only [List.cons_append, List.cons.injEq] at e; exact ha e.1.symm
      cases h with
      | entry h e => exact (no h (by decide) e).elim
      | block h hn e => rw [blk_nat hn] at e; exact (no h (by decide) e).elim
      | attr h hm e => exact (no h (by decide) e).elim
      | link h e => rfl
    subst this
    exact ⟨(y87 h hl).1, (y87 h hl).2⟩
  · exact yl5 (fun x t n m g => hk ⟨x, t, n, m, g⟩) hl
def y08 (p : B) : Int := bif eqs p [] then 0 else bif eqi (bt p 0) 6 then 6 else bif validB p then 1 else bif z83 p then 5 else 0
theorem x7e {p : B} (h : p.length ≤ 200) : zmu NN p = some (y08 p) := by
  unfold zmu y08
  cases e : eqs p []
  · have hne : p ≠ [] := fun g => by rw [g] at e; cases e
    have hpos : 0 < p.length := List.length_pos_iff.2 hne
    simp only [cond_false]
    rw [gd_t (z6t (by omega) (by omega))]
    cases eqi (bt p 0) 6
    · simp only [cond_false]
      rw [yif (by omega)]
      cases hv : validB p
      · simp only [cond_false]
        rw [gd_p (by simp only [maxS, List.length_cons, List.length_nil]; omega)]
        have hl : (p ++ [1]).length < 600000000 := by simp; omega
        cases hb : z83 p
        · simp only [cond_false]
          by_cases hk : ∃ x t n m, KeyIs (p ++ [1]) x t n m
          · obtain ⟨x, t, n, m, h⟩ := hk
            have g : validB x = true ∨ z83 x = true := by
              cases h with
              | entry h e => exact h
              | block h hn e => exact h
              | attr h hm e => exact h
              | link h e => exact .inl h
            have g2 : eqs x p = false := z6c fun g3 => by subst g3; rw [hv, hb] at g; rcases g with g | g <;> cases g
            simp only [Place_yes h hl, g2, zje, cond_true, cond_false]
          · simp only [Place_no (fun x t n m g => hk ⟨x, t, n, m, g⟩) hl]
            rfl
        · simp only [Place_yes (.entry (.inr hb) rfl) hl, zje, z4l, cond_true]
      · simp only [cond_true]
    · simp only [cond_true]
  · rfl
def alikeB (p q : B) : Bool := !(eqi (y08 p) 0) && eqi (y08 p) (y08 q)
theorem alike_eq {p q : B} (h : p.length ≤ 200) (g : q.length ≤ 200) : zvq NN p q = some (alikeB p q) := by
  unfold zvq alikeB
  simp only [x7e h, x7e g]
  cases eqi (y08 p) 0 <;> rfl
theorem kind_cases {p : B} (h : y08 p ≠ 0) : p ≠ [] ∧ (y08 p = 6 ∧ (∃ s, p = 6 :: s) ∨ y08 p = 1 ∧ validB p = true ∨ y08 p = 5 ∧ z83 p = true) := by
  unfold y08 at h ⊢
  cases e : eqs p []
  · have hne : p ≠ [] := fun g => by rw [g] at e; cases e
    refine ⟨hne, ?_⟩
    simp only [e, cond_false] at h ⊢
    cases e2 : eqi (bt p 0) 6
    · simp only [e2, cond_false] at h ⊢
      cases e3 : validB p
      · simp only [e3, cond_false] at h ⊢
        cases e4 : z83 p
        · simp [e4] at h
        · exact .inr (.inr ⟨rfl, rfl⟩)
      · exact .inr (.inl ⟨rfl, rfl⟩)
    · left
      refine ⟨rfl, ?_⟩
      cases p with
      | nil => exact absurd rfl hne
      | cons a s =>
        have : (a.toNat : Int) = 6 := w7.1 e2
        have : a = 6 := UInt8.toNat_inj.1 (by show a.toNat = 6; omega)
        exact ⟨s, by rw [this]⟩
  · rw [e] at h; exact absurd rfl h
theorem alike_turn {p q r : B} (h : alikeB p q = true) (hl : (p ++ r).length < 600000000) (hl' : (q ++ r).length < 600000000) : entK (q ++ r) = entK (p ++ r) ∧ byK (q ++ r) = byK (p ++ r) := by
  simp only [alikeB, Bool.and_eq_true, Bool.not_eq_true'] at h
  obtain ⟨h0, h1⟩ := h
  have h1 := w7.1 h1
  have hp0 : y08 p ≠ 0 := fun g => by rw [g] at h0; cases h0
  have hq0 : y08 q ≠ 0 := h1 ▸ hp0
  obtain ⟨np, cp⟩ := kind_cases hp0
  obtain ⟨nq, cq⟩ := kind_cases hq0
  rcases cp with ⟨k1, s, rfl⟩ | ⟨k1, v1⟩ | ⟨k1, v1⟩ <;> rcases cq with ⟨k2, s', rfl⟩ | ⟨k2, v2⟩ | ⟨k2, v2⟩ <;> first | (exfalso; omega) | skip
  · have a := x7b (s := s ++ r) hl
    have b := x7b (s := s' ++ r) hl'
    rw [List.cons_append, List.cons_append, a.1, a.2, b.1, b.2]; exact ⟨rfl, rfl⟩
  · exact x6x (yu4 v1 v2 np nq) (yu4 v2 v1 nq np) hl hl'
  · exact x6x (yu5 v1 v2) (yu5 v2 v1) hl hl'
end Ds.Pa
