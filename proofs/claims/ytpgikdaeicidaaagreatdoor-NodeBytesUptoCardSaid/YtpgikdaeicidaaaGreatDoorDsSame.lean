/- When two nodes are the same, as the reference compares them. -/
import Derived.Test.YtpgikdaeicidaaaGreatDoorDsLen
set_option linter.all false
namespace Ds
open Go Go.Dv
set_option maxRecDepth 100000
set_option linter.unusedVariables false
theorem zip_rd {α β : Type} {xs : List α} {ys : List β} (h : xs.length = ys.length) (dx : α) (dy : β) {pre : List (α × β)} {x : α × β} {post : List (α × β)} (hx : xs.zip ys = pre ++ x :: post) :
    rdL xs (pre.length : Int) dx = x.1 ∧ rdL ys (pre.length : Int) dy = x.2 ∧ pre.length + (post.length + 1) = xs.length := by
  have e1 : xs = pre.map (·.1) ++ x.1 :: post.map (·.1) := by
    have := List.map_fst_zip (l₁ := xs) (l₂ := ys) (by omega)
    rw [hx] at this
    rw [← this]; simp
  have e2 : ys = pre.map (·.2) ++ x.2 :: post.map (·.2) := by
    have := List.map_snd_zip (l₁ := xs) (l₂ := ys) (by omega)
    rw [hx] at this
    rw [← this]; simp
  refine ⟨?_, ?_, by rw [e1]; simp⟩
  · have : rdL (pre.map (·.1) ++ x.1 :: post.map (·.1)) ((pre.map (·.1)).length : Int) dx = x.1 := rd_mid
    rw [List.length_map] at this
    rw [e1]; exact this
  · have : rdL (pre.map (·.2) ++ x.2 :: post.map (·.2)) ((pre.map (·.2)).length : Int) dy = x.2 := rd_mid
    rw [List.length_map] at this
    rw [e2]; exact this
theorem zip_all {α : Type} [DecidableEq α] (e : α → α → Bool) (he : ∀ a b, e a b = true ↔ a = b) : ∀ xs ys : List α, xs.length = ys.length → (xs.zip ys).all (fun z => e z.1 z.2) = decide (xs = ys)
  | [], [], _ => rfl
  | x :: xs, y :: ys, h => by
    have ih := zip_all e he xs ys (by simpa using h)
    rw [List.zip_cons_cons, List.all_cons, ih]
    by_cases hxy : x = y
    · rw [(he x y).2 hxy, hxy]; simp
    · have : e x y = false := by
        cases hh : e x y
        · rfl
        · exact absurd ((he x y).1 hh) hxy
      rw [this, decide_eq_false (fun q => hxy (List.cons.inj q).1)]; rfl
theorem two {α R : Type} [DecidableEq α] {xs ys : List α} (dx : α) (L : Nat → Int → Option R) (e : α → α → Bool) (he : ∀ a b, e a b = true ↔ a = b) (yes no : R) (h : xs.length = ys.length) (hl : xs.length < 60000)
    (hend : ∀ n, L (n + 1) (xs.length : Int) = some yes)
    (hstep : ∀ (n i : Nat), i < xs.length → L (n + 1) (i : Int) = bif e (rdL xs (i : Int) dx) (rdL ys (i : Int) dx) then L n ((i + 1 : Nat) : Int) else some no) :
    L NN 0 = some (bif decide (xs = ys) then yes else no) := by
  have hz : (xs.zip ys).length = xs.length := by rw [List.length_zip, h, Nat.min_self]
  have := look0 (xs := xs.zip ys) (L := L) (fun z => e z.1 z.2) yes no (by rw [hz]; exact hend) (fun n pre x post hx => by
    obtain ⟨r1, r2, r3⟩ := zip_rd h dx dx hx
    rw [hstep n pre.length (by omega), r1, r2]
    have : (pre ++ [x]).length = pre.length + 1 := by simp
    rw [this]) (n := NN) (by rw [hz]; simp only [NN]; omega)
  rw [this, zip_all e he xs ys h]
def eqP (a b : Pr) : Bool := eqs a.1 b.1 && (eqs a.2.1 b.2.1 && (eqi a.2.2 b.2.2 && true))
theorem eqP_iff (a b : Pr) : eqP a b = true ↔ a = b := by
  obtain ⟨a1, a2, a3⟩ := a
  obtain ⟨b1, b2, b3⟩ := b
  simp only [eqP, Bool.and_eq_true, eqs_iff, eqi_iff, Prod.mk.injEq, and_true]
def eqS (a b : V_api_Sum) : Bool := eqi a.1.1 b.1.1 && (eqi a.1.2 b.1.2 && (eqi a.2.1 b.2.1 && (eqi a.2.2 b.2.2 && true)))
theorem eqS_iff (a b : V_api_Sum) : eqS a b = true ↔ a = b := by
  obtain ⟨⟨a1, a2⟩, a3, a4⟩ := a
  obtain ⟨⟨b1, b2⟩, b3, b4⟩ := b
  simp only [eqS, Bool.and_eq_true, eqi_iff, Prod.mk.injEq, and_true, and_assoc]
theorem idx_w {i n : Nat} (h : i < n) (hn : n < 60000) : IntKind.wrap .i64 ((i : Int) + (1 : Int)) = ((i + 1 : Nat) : Int) := by rw [w64 (by omega) (by omega)]; rfl
theorem same4 {a b : List Pr} (hl : a.length < 60000) : ref04_Same NN a b = some (decide (a = b)) := by
  unfold ref04_Same
  by_cases h : a.length = b.length
  · have := two (xs := a) (ys := b) D_api_Pair (fun n i => ref04_Same_l0 NN n a b i) eqP eqP_iff (.inr ((), ())) (.inl (false, ())) h hl (fun n => by rw [ref04_Same_l0_succ, ref04_Same_l0_step, bif_f (by simp)]) (fun n i hi => by
      rw [ref04_Same_l0_succ, ref04_Same_l0_step, bif_t (by simpa using hi), gd_t (inB_t (by omega) (by omega)), gd_t (inB_t (by omega) (by omega)), idx_w hi hl]
      simp only [eqP]
      cases (eqs (rdL a (i : Int) D_api_Pair).1 (rdL b (i : Int) D_api_Pair).1 && (eqs (rdL a (i : Int) D_api_Pair).2.1 (rdL b (i : Int) D_api_Pair).2.1 && (eqi (rdL a (i : Int) D_api_Pair).2.2 (rdL b (i : Int) D_api_Pair).2.2 && true))) <;> rfl)
    simp only
    rw [eqi_iff.2 (show (a.length : Int) = (b.length : Int) by omega), show (!true) = false from rfl, cond_false, this]
    cases decide (a = b) <;> rfl
  · simp only
    rw [eqi_ne (by omega), decide_eq_false (fun e => h (by rw [e]))]; rfl
instance decM : DecidableEq Mg := fun _ _ => decidable_of_iff _ eqM_iff
instance decN : DecidableEq Nd := fun a b => decidable_of_iff (a.1 = b.1 ∧ a.2.1 = b.2.1 ∧ a.2.2.1 = b.2.2.1 ∧ a.2.2.2.1 = b.2.2.2.1 ∧ a.2.2.2.2 = b.2.2.2.2) ⟨fun h => by obtain ⟨a1, a2, a3, a4, a5⟩ := a; obtain ⟨b1, b2, b3, b4, b5⟩ := b; obtain ⟨h1, h2, h3, h4, h5⟩ := h; simp only at h1 h2 h3 h4 h5; subst h1 h2 h3 h4 h5; rfl, fun h => by subst h; exact ⟨rfl, rfl, rfl, rfl, rfl⟩⟩
theorem sameM5 {a b : List Mg} (hl : a.length < 60000) : ref05_SameMsgs NN a b = some (decide (a = b)) := by
  unfold ref05_SameMsgs
  by_cases h : a.length = b.length
  · have := two (xs := a) (ys := b) D_api_Msg (fun n i => ref05_SameMsgs_l0 NN n a b i) eqM (fun _ _ => eqM_iff) (.inr ((), ())) (.inl (false, ())) h hl (fun n => by rw [ref05_SameMsgs_l0_succ, ref05_SameMsgs_l0_step, bif_f (by simp)]) (fun n i hi => by
      rw [ref05_SameMsgs_l0_succ, ref05_SameMsgs_l0_step, bif_t (by simpa using hi), gd_t (inB_t (by omega) (by omega)), gd_t (inB_t (by omega) (by omega)), idx_w hi hl]
      show (bif !(eqM (rdL a (i : Int) D_api_Msg) (rdL b (i : Int) D_api_Msg)) then _ else _) = _
      cases eqM (rdL a (i : Int) D_api_Msg) (rdL b (i : Int) D_api_Msg) <;> rfl)
    simp only
    rw [eqi_iff.2 (show (a.length : Int) = (b.length : Int) by omega), show (!true) = false from rfl, cond_false, this]
    cases decide (a = b) <;> rfl
  · simp only
    rw [eqi_ne (by omega), decide_eq_false (fun e => h (by rw [e]))]; rfl
section three
variable (b1 : List Pr) (b2 : List B) (b3 : List Int) (b4 : List V_api_Sum) (b5 : List Mg) (b6 : List Pr) (b7 : List B) (b8 : List Int) (b9 : List V_api_Sum) (b10 : List Mg)
theorem same_l2 (h : b2.length = b7.length) (hl : b2.length < 60000) : ref10_Same_l2 NN NN 0 b1 b2 b3 b4 b5 b6 b7 b8 b9 b10 = some (bif decide (b2 = b7) then .inr (((), ()), ((b1, (b2, (b3, (b4, b5)))), ((b6, (b7, (b8, (b9, b10)))), ()))) else .inl (false, ())) :=
  two (xs := b2) (ys := b7) ([] : B) (fun n i => ref10_Same_l2 NN n i b1 b2 b3 b4 b5 b6 b7 b8 b9 b10) eqs (fun _ _ => eqs_iff) _ _ h hl (fun n => by rw [ref10_Same_l2_succ, ref10_Same_l2_step, bif_f (by simp)]) (fun n i hi => by
    rw [ref10_Same_l2_succ, ref10_Same_l2_step, bif_t (by simpa using hi), gd_t (inB_t (by omega) (by omega)), gd_t (inB_t (by omega) (by omega)), idx_w hi hl]
    simp only
    cases eqs (rdL b2 (i : Int) ([] : B)) (rdL b7 (i : Int) ([] : B)) <;> rfl)
theorem same_l3 (h : b3.length = b8.length) (hl : b3.length < 60000) : ref10_Same_l3 NN NN 0 b1 b2 b3 b4 b5 b6 b7 b8 b9 b10 = some (bif decide (b3 = b8) then .inr (((), ()), ((b1, (b2, (b3, (b4, b5)))), ((b6, (b7, (b8, (b9, b10)))), ()))) else .inl (false, ())) :=
  two (xs := b3) (ys := b8) (0 : Int) (fun n i => ref10_Same_l3 NN n i b1 b2 b3 b4 b5 b6 b7 b8 b9 b10) eqi (fun _ _ => eqi_iff) _ _ h hl (fun n => by rw [ref10_Same_l3_succ, ref10_Same_l3_step, bif_f (by simp)]) (fun n i hi => by
    rw [ref10_Same_l3_succ, ref10_Same_l3_step, bif_t (by simpa using hi), gd_t (inB_t (by omega) (by omega)), gd_t (inB_t (by omega) (by omega)), idx_w hi hl]
    simp only
    cases eqi (rdL b3 (i : Int) (0 : Int)) (rdL b8 (i : Int) (0 : Int)) <;> rfl)
theorem same_l4 (h : b4.length = b9.length) (hl : b4.length < 60000) : ref10_Same_l4 NN NN 0 b1 b2 b3 b4 b5 b6 b7 b8 b9 b10 = some (bif decide (b4 = b9) then .inr ((), ()) else .inl (false, ())) :=
  two (xs := b4) (ys := b9) D_api_Sum (fun n i => ref10_Same_l4 NN n i b1 b2 b3 b4 b5 b6 b7 b8 b9 b10) eqS eqS_iff _ _ h hl (fun n => by rw [ref10_Same_l4_succ, ref10_Same_l4_step, bif_f (by simp)]) (fun n i hi => by
    rw [ref10_Same_l4_succ, ref10_Same_l4_step, bif_t (by simpa using hi), gd_t (inB_t (by omega) (by omega)), gd_t (inB_t (by omega) (by omega)), idx_w hi hl]
    show (bif !(eqS (rdL b4 (i : Int) D_api_Sum) (rdL b9 (i : Int) D_api_Sum)) then _ else _) = _
    cases eqS (rdL b4 (i : Int) D_api_Sum) (rdL b9 (i : Int) D_api_Sum) <;> rfl)
end three
theorem same10 {a b : Nd} (h : SmallN a) : ref10_Same NN a b = some (decide (a = b)) := by
  obtain ⟨a1, a2, a3, a4, a5⟩ := a
  obtain ⟨c1, c2, c3, c4, c5⟩ := b
  obtain ⟨s1, s2, s3, s4, s5⟩ := h
  simp only at s1 s2 s3 s4 s5
  unfold ref10_Same
  simp only [ref10_Same_p1]
  rw [same4 (by omega)]
  simp only
  by_cases e1 : a1 = c1
  · rw [decide_eq_true e1, sameM5 (by omega)]
    simp only [Bool.not_true, cond_false]
    by_cases e5 : a5 = c5
    · rw [decide_eq_true e5]
      simp only [Bool.not_true, cond_false]
      by_cases l2 : a2.length = c2.length
      · rw [eqi_iff.2 (show (a2.length : Int) = (c2.length : Int) by omega)]
        simp only [Bool.not_true, cond_false]
        by_cases l3 : a3.length = c3.length
        · rw [eqi_iff.2 (show (a3.length : Int) = (c3.length : Int) by omega)]
          simp only [Bool.not_true, cond_false]
          by_cases l4 : a4.length = c4.length
          · rw [eqi_iff.2 (show (a4.length : Int) = (c4.length : Int) by omega)]
            simp only [Bool.not_true, cond_false]
            unfold ref10_Same_p0
            rw [same_l2 a1 a2 a3 a4 a5 c1 c2 c3 c4 c5 l2 (by omega)]
            by_cases e2 : a2 = c2
            · rw [decide_eq_true e2]
              simp only [cond_true]
              rw [same_l3 a1 a2 a3 a4 a5 c1 c2 c3 c4 c5 l3 (by omega)]
              by_cases e3 : a3 = c3
              · rw [decide_eq_true e3]
                simp only [cond_true]
                rw [same_l4 a1 a2 a3 a4 a5 c1 c2 c3 c4 c5 l4 (by omega)]
                by_cases e4 : a4 = c4
                · rw [decide_eq_true e4]
                  simp [e1, e2, e3, e4, e5]
                · rw [decide_eq_false e4]
                  simp [e4]
              · rw [decide_eq_false e3]
                simp [e3]
            · rw [decide_eq_false e2]
              simp [e2]
          · rw [eqi_ne (by omega)]
            simp [show a4 ≠ c4 from fun e => l4 (by rw [e])]
        · rw [eqi_ne (by omega)]
          simp [show a3 ≠ c3 from fun e => l3 (by rw [e])]
      · rw [eqi_ne (by omega)]
        simp [show a2 ≠ c2 from fun e => l2 (by rw [e])]
    · rw [decide_eq_false e5]
      simp [e5]
  · rw [decide_eq_false e1]
    simp [e1]
end Ds
