/- Made messages: which one crosses first, and kinds. -/
import Derived.Test.YtfecapegkdpbhaaGreatDsList
import Derived.Test.YtfecapegkdpbhaaGreatDsCross
set_option linter.all false
namespace Ds
open Go Go.Dv
set_option maxRecDepth 100000
set_option linter.unusedVariables false

/-- messages that all have an answer -/
def Answers (ps : List B) (c : Ty.T T_api_Msg → Bool) (buf : List (Ty.T T_api_Msg)) : Prop := ∀ m ∈ buf, route_Crosses NN m ps = some (c m) ∧ (c m = true → m.1 = (4 : Int) ∨ m.1 = (5 : Int))

theorem good_answers {ps : List B} (hp : areaOk ps = true) {buf : List (Ty.T T_api_Msg)} (h : ∀ m ∈ buf, Good m) : Answers ps (fun m => (route_Crosses NN m ps).getD false) buf := by
  intro m hm
  obtain ⟨b, h1, h2⟩ := cross_ok hp (h m hm)
  refine ⟨by simp only [h1, Option.getD_some], fun hb => ?_⟩
  simp only [h1, Option.getD_some] at hb
  obtain ⟨e, _, rfl | rfl⟩ := h2 hb
  · exact .inl rfl
  · exact .inr rfl

section
variable {ps : List B} {c : Ty.T T_api_Msg → Bool} {buf : List (Ty.T T_api_Msg)}

theorem rd_in {i : Int} (h0 : 0 ≤ i) (h1 : i < (buf.length : Int)) : rd T_api_Msg buf i ∈ buf := by
  obtain ⟨h, e⟩ := rd_at T_api_Msg buf i h0 h1
  rw [e]; exact List.getElem_mem h

theorem index_ok (ha : Answers ps c buf) (hb : buf.length < 60) :
    ∃ r, slices_IndexFunc_s_api_Msg_api_Msg__settle_First_c1 NN buf ps = some r ∧
      (r = -1 ∧ (∀ i : Int, 0 ≤ i → i < (buf.length : Int) → c (rd T_api_Msg buf i) = false) ∨
       0 ≤ r ∧ r < (buf.length : Int) ∧ c (rd T_api_Msg buf r) = true ∧ ∀ i : Int, 0 ≤ i → i < r → c (rd T_api_Msg buf i) = false) := by
  have loop := iter_inv (A := (((List (Ty.T T_api_Msg)) × ((List (List UInt8)) × (Int × Int))) × Unit)) (R := ((Int × Unit) ⊕ (Unit × Unit)))
    (f := fun rec v => slices_IndexFunc_s_api_Msg_api_Msg__settle_First_c1_l0_step NN (fun b0 b1 b2 b3 => rec ((b0, (b1, (b2, b3))), ())) v.1.1 v.1.2.1 v.1.2.2.1 v.1.2.2.2)
    (fun v => v.1.1 = buf ∧ v.1.2.1 = ps ∧ v.1.2.2.1 = (buf.length : Int) ∧ 0 ≤ v.1.2.2.2 ∧ v.1.2.2.2 ≤ (buf.length : Int) ∧ ∀ i : Int, 0 ≤ i → i < v.1.2.2.2 → c (rd T_api_Msg buf i) = false)
    (fun r => match r with
      | .inl r => 0 ≤ r.1 ∧ r.1 < (buf.length : Int) ∧ c (rd T_api_Msg buf r.1) = true ∧ ∀ i : Int, 0 ≤ i → i < r.1 → c (rd T_api_Msg buf i) = false
      | .inr _ => ∀ i : Int, 0 ≤ i → i < (buf.length : Int) → c (rd T_api_Msg buf i) = false)
    (fun v => ((buf.length : Int) - v.1.2.2.2).toNat)
    (by
      rintro rec ⟨⟨b0, b1, n, i⟩, _⟩ ⟨rfl, rfl, hn, h4, h5, h6⟩ ih
      simp only at hn h4 h5 h6 ha hb
      subst hn
      simp only [slices_IndexFunc_s_api_Msg_api_Msg__settle_First_c1_l0_step]
      cases e1 : decide (i < (b0.length : Int))
      · have e1 := of_decide_eq_false e1
        exact ⟨_, rfl, fun j h0 h1 => h6 j h0 (by omega)⟩
      have e1 := of_decide_eq_true e1
      simp only [cond_true]
      rw [gd_t (inB_t h4 e1)]
      simp only [settle_First_c1, (ha _ (rd_in h4 e1)).1]
      cases e2 : c (rd T_api_Msg b0 i)
      · simp only [cond_false]
        rw [w64 (by omega) (by omega)]
        exact ih ((b0, b1, (b0.length : Int), i + 1), ()) ⟨rfl, rfl, rfl, by simp only; omega, by simp only; omega, fun j h0 h1 => by
          simp only at h1
          by_cases hj : j < i
          · exact h6 j h0 hj
          · have : j = i := by omega
            subst this; exact e2⟩ (by simp only; omega)
      · exact ⟨_, rfl, h4, e1, e2, h6⟩)
    NN ((buf, ps, (buf.length : Int), 0), ()) ⟨rfl, rfl, rfl, Int.le_refl _, by simp only; omega, fun i h0 h1 => by simp only at h1; omega⟩ (by simp only [NN]; omega)
  obtain ⟨r, h1, h2⟩ := loop
  simp only [slices_IndexFunc_s_api_Msg_api_Msg__settle_First_c1, slices_IndexFunc_s_api_Msg_api_Msg__settle_First_c1_l0, h1]
  cases r with
  | inl r => exact ⟨_, rfl, .inr h2⟩
  | inr r => exact ⟨_, rfl, .inl ⟨rfl, h2⟩⟩

end

theorem sanity_ok : law09_sanity NN = some true := by decide +kernel

theorem cross_no {m : Mg} (h4 : eqi m.1 4 = false) (h5 : eqi m.1 5 = false) (ps : List B) : route_Crosses NN m ps = some false := by
  simp only [route_Crosses, route_moves, h4, h5, cond_false, Bool.not_false, cond_true]

theorem settleL_kind {k : Int} {e : B × B} {src : List Pr} {m : Mg} (h : m ∈ settleL k e src) : m.1 = (1 : Int) ∨ m.1 = (3 : Int) := by
  simp only [settleL, List.mem_cons, List.mem_append, List.mem_map] at h
  rcases h with rfl | ⟨p, _, rfl⟩ | h
  · exact .inr rfl
  · exact .inl rfl
  · cases e4 : eqi k 4 <;> rw [e4] at h
    · simp at h
    · simp at h; subst h; exact .inr rfl

theorem kinds_no {m : Mg} (h : m.1 = (1 : Int) ∨ m.1 = (3 : Int)) : eqi m.1 4 = false ∧ eqi m.1 5 = false := by
  rcases h with h | h <;> rw [h] <;> decide

theorem good_kind {m : Mg} (h : Good m) : (∃ k e, m = mv k e ∧ (k = 4 ∨ k = 5) ∧ e ∈ ends) ∨ (eqi m.1 4 = false ∧ eqi m.1 5 = false) := by
  cases h with
  | put => exact .inr ⟨by simp [eqi], by simp [eqi]⟩
  | del => exact .inr ⟨by simp [eqi], by simp [eqi]⟩
  | drop => exact .inr ⟨by simp [eqi], by simp [eqi]⟩
  | stamp => exact .inr ⟨by simp [eqi], by simp [eqi]⟩
  | move e he => exact .inl ⟨4, e, rfl, .inl rfl, he⟩
  | clone e he => exact .inl ⟨5, e, rfl, .inr rfl, he⟩

theorem settleL_len {k : Int} {e : B × B} {src : List Pr} : (settleL k e src).length = src.length + 1 + (bif eqi k 4 then 1 else 0) := by
  simp only [settleL, List.length_cons, List.length_append, List.length_map]
  cases eqi k 4 <;> simp <;> omega

end Ds
