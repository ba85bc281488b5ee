/- The plain law of SettleCrosses. -/
import Derived.Test.YtfecapegkdpbhaaDsFirst
set_option linter.all false
namespace Ds
open Go Go.Dv
set_option maxRecDepth 100000
set_option linter.unusedVariables false

theorem cross_no {m : Mg} (h4 : eqi m.1 4 = false) (h5 : eqi m.1 5 = false) (ps : List B) : route_Crosses NN m ps = some false := by
  simp only [route_Crosses, route_moves, h4, h5, cond_false, Bool.not_false, cond_true]

theorem settleL_kind {k : Int} {e : B × B} {src : List Pr} {m : Mg} (h : m ∈ settleL k e src) : m.1 = (1 : Int) ∨ m.1 = (3 : Int) := by
  simp only [settleL, List.mem_cons, List.mem_append, List.mem_map] at h
  rcases h with rfl | ⟨p, _, rfl⟩ | h
  · exact .inr rfl
  · exact .inl rfl
  · cases e4 : eqi k 4 <;> rw [e4] at h
    · simp at h
    · simp at h; subst h; exact .inr rfl

theorem kinds_no {m : Mg} (h : m.1 = (1 : Int) ∨ m.1 = (3 : Int)) : eqi m.1 4 = false ∧ eqi m.1 5 = false := by
  rcases h with h | h <;> rw [h] <;> decide

theorem crosses_l0 {w : Int} {ps : List B} {b : Bool} (hw : law09_pivots NN w = some ps) : ∀ (post pre : List Mg) (n : Nat), post.length < n → (pre ++ post).length < 1000000 → (∀ m ∈ post, m.1 = (1 : Int) ∨ m.1 = (3 : Int)) →
    law09_SettleCrosses_l0 NN n w b (pre.length : Int) (pre ++ post) = some (.inr ((w, (b, ())), (pre ++ post, ())))
  | [], pre, n + 1, _, _, _ => by
    show law09_SettleCrosses_l0_step NN (fun b0 b1 b2 b3 => law09_SettleCrosses_l0 NN n b0 b1 b2 b3) w b (pre.length : Int) (pre ++ []) = _
    simp only [law09_SettleCrosses_l0_step, List.append_nil, Int.lt_irrefl, decide_false, cond_false]
  | [], pre, 0, h, _, _ => absurd h (Nat.not_lt_zero _)
  | q :: post, pre, 0, h, _, _ => absurd h (Nat.not_lt_zero _)
  | q :: post, pre, n + 1, hn, hl, hq => by
    have ih := crosses_l0 (b := b) hw post (pre ++ [q]) n (by simp at hn; omega) (by simpa using hl) (fun m hm => hq m (by simp [hm]))
    have hl' : pre.length < 9223372036854775807 := by simp at hl; omega
    have hk := hq q (by simp)
    have hc := cross_no (kinds_no hk).1 (kinds_no hk).2 ps
    rw [← app_mid] at ih
    show law09_SettleCrosses_l0_step NN (fun b0 b1 b2 b3 => law09_SettleCrosses_l0 NN n b0 b1 b2 b3) w b (pre.length : Int) (pre ++ q :: post) = _
    simp only [law09_SettleCrosses_l0_step, lt_mid, in_mid, cond_true, getD_mid, hw, hc, cond_false]
    rw [gd_t rfl, gd_t rfl, gd_t rfl, wr_mid (q := q) hl', ih]
    rcases hk with hk | hk
    · rw [hk]; rfl
    · rw [hk]; rfl

theorem good_kind {m : Mg} (h : Good m) : (∃ k e, m = mv k e ∧ (k = 4 ∨ k = 5) ∧ e ∈ ends) ∨ (eqi m.1 4 = false ∧ eqi m.1 5 = false) := by
  cases h with
  | put => exact .inr ⟨by simp [eqi], by simp [eqi]⟩
  | del => exact .inr ⟨by simp [eqi], by simp [eqi]⟩
  | drop => exact .inr ⟨by simp [eqi], by simp [eqi]⟩
  | stamp => exact .inr ⟨by simp [eqi], by simp [eqi]⟩
  | move e he => exact .inl ⟨4, e, rfl, .inl rfl, he⟩
  | clone e he => exact .inl ⟨5, e, rfl, .inr rfl, he⟩

theorem settleL_len {k : Int} {e : B × B} {src : List Pr} : (settleL k e src).length = src.length + 1 + (bif eqi k 4 then 1 else 0) := by
  simp only [settleL, List.length_cons, List.length_append, List.length_map]
  cases eqi k 4 <;> simp <;> omega

theorem plainCrosses (x : List (Ty.T T_ref04_Raw)) (y : Ty.T T_ref05_Raw) (w : Int) (hx : okT (.list T_ref04_Raw) x) (hy : okT T_ref05_Raw y) (hw : (Lit.int .u8 w).wf = true) : law09_SettleCrosses NN x y w = some true := by
  obtain ⟨w0, w1⟩ := u8_of_wf hw
  obtain ⟨m, h1, h2⟩ := made_ok hy
  obtain ⟨t, h3, h4, h5⟩ := tab_ok hx
  obtain ⟨ps, h6, h7⟩ := piv_ok w0 w1
  rcases good_kind h2 with ⟨k, e, rfl, hk, he⟩ | ⟨k4, k5⟩
  · obtain ⟨src, h8, h9⟩ := source_ok h4 h5 hk he
    have h10 := settle_ok hk he h9
    have hlen : (settleL k e src).length < 60 := by
      have := h9.1
      rw [settleL_len]; cases eqi k 4 <;> simp <;> omega
    have hl := crosses_l0 (b := true) h6 (settleL k e src) [] NN (by simp only [NN]; omega) (by simp only [List.nil_append]; omega) (fun m hm => settleL_kind hm)
    have hz : (([] : List Mg).length : Int) = 0 := rfl
    simp only [List.nil_append, hz] at hl
    have ha : Answers ps (fun _ => false) (settleL k e src) := fun m hm => ⟨cross_no (kinds_no (settleL_kind hm)).1 (kinds_no (settleL_kind hm)).2 ps, fun h => by cases h⟩
    obtain ⟨r, h11, h12⟩ := index_ok ha hlen
    have hr : r = -1 := by
      rcases h12 with h | h
      · exact h.1
      · exact absurd h.2.2.1 (by simp)
    subst hr
    have hf : settle_First NN (settleL k e src) ps = some (0, false) := by
      simp only [settle_First, h11]
      rfl
    simp only [law09_SettleCrosses, sanity_ok, h1, h3, h8, h10, hl, h6, hf]
    rcases hk with rfl | rfl <;> rfl
  · have h8 := source_no (t := t) k4 k5
    have h9 := settle_no k4 k5 ([] : List Pr)
    simp only [law09_SettleCrosses, sanity_ok, h1, h3, h8, h9, k4, k5, Bool.not_false, cond_true]
    have e1 : eqi (List.length [m] : Int) 1 = true := rfl
    have e2 : List.getD [m] (Int.toNat (0 : Int)) (Ty.dflt T_api_Msg) = m := rfl
    rw [e1, e2, gd_t (show inB 0 (List.length [m]) = true from rfl)]
    have key : ∀ (a : Int) (b c d e f g : B) (h : Int), some (eqi a a && (eqs b b && (eqs c c && (eqs d d && (eqs e e && (eqs f f && (eqs g g && (eqi h h && true)))))))) = some true := by
      intros; simp
    exact key _ _ _ _ _ _ _ _
end Ds
