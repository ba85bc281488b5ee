/- The plain law of SettleFirst. -/
import Derived.Test.YtfecapegkdpbhaaDsList
import Derived.Test.YtfecapegkdpbhaaDsCross
set_option linter.all false
namespace Ds
open Go Go.Dv
set_option maxRecDepth 100000
set_option linter.unusedVariables false

/-- messages that all have an answer -/
def Answers (ps : List B) (c : Ty.T T_api_Msg → Bool) (buf : List (Ty.T T_api_Msg)) : Prop := ∀ m ∈ buf, route_Crosses NN m ps = some (c m) ∧ (c m = true → m.1 = (4 : Int) ∨ m.1 = (5 : Int))

theorem good_answers {ps : List B} (hp : areaOk ps = true) {buf : List (Ty.T T_api_Msg)} (h : ∀ m ∈ buf, Good m) : Answers ps (fun m => (route_Crosses NN m ps).getD false) buf := by
  intro m hm
  obtain ⟨b, h1, h2⟩ := cross_ok hp (h m hm)
  refine ⟨by simp only [h1, Option.getD_some], fun hb => ?_⟩
  simp only [h1, Option.getD_some] at hb
  obtain ⟨e, _, rfl | rfl⟩ := h2 hb
  · exact .inl rfl
  · exact .inr rfl

section
variable {ps : List B} {c : Ty.T T_api_Msg → Bool} {buf : List (Ty.T T_api_Msg)}

theorem rd_in {i : Int} (h0 : 0 ≤ i) (h1 : i < (buf.length : Int)) : rd T_api_Msg buf i ∈ buf := by
  obtain ⟨h, e⟩ := rd_at T_api_Msg buf i h0 h1
  rw [e]; exact List.getElem_mem h

theorem index_ok (ha : Answers ps c buf) (hb : buf.length < 60) :
    ∃ r, slices_IndexFunc_s_api_Msg_api_Msg__settle_First_c1 NN buf ps = some r ∧
      (r = -1 ∧ (∀ i : Int, 0 ≤ i → i < (buf.length : Int) → c (rd T_api_Msg buf i) = false) ∨
       0 ≤ r ∧ r < (buf.length : Int) ∧ c (rd T_api_Msg buf r) = true ∧ ∀ i : Int, 0 ≤ i → i < r → c (rd T_api_Msg buf i) = false) := by
  have loop := iter_inv (A := (((List (Ty.T T_api_Msg)) × ((List (List UInt8)) × (Int × Int))) × Unit)) (R := ((Int × Unit) ⊕ (Unit × Unit)))
    (f := fun rec v => slices_IndexFunc_s_api_Msg_api_Msg__settle_First_c1_l0_step NN (fun b0 b1 b2 b3 => rec ((b0, (b1, (b2, b3))), ())) v.1.1 v.1.2.1 v.1.2.2.1 v.1.2.2.2)
    (fun v => v.1.1 = buf ∧ v.1.2.1 = ps ∧ v.1.2.2.1 = (buf.length : Int) ∧ 0 ≤ v.1.2.2.2 ∧ v.1.2.2.2 ≤ (buf.length : Int) ∧ ∀ i : Int, 0 ≤ i → i < v.1.2.2.2 → c (rd T_api_Msg buf i) = false)
    (fun r => match r with
      | .inl r => 0 ≤ r.1 ∧ r.1 < (buf.length : Int) ∧ c (rd T_api_Msg buf r.1) = true ∧ ∀ i : Int, 0 ≤ i → i < r.1 → c (rd T_api_Msg buf i) = false
      | .inr _ => ∀ i : Int, 0 ≤ i → i < (buf.length : Int) → c (rd T_api_Msg buf i) = false)
    (fun v => ((buf.length : Int) - v.1.2.2.2).toNat)
    (by
      rintro rec ⟨⟨b0, b1, n, i⟩, _⟩ ⟨rfl, rfl, hn, h4, h5, h6⟩ ih
      simp only at hn h4 h5 h6 ha hb
      subst hn
      simp only [slices_IndexFunc_s_api_Msg_api_Msg__settle_First_c1_l0_step]
      cases e1 : decide (i < (b0.length : Int))
      · have e1 := of_decide_eq_false e1
        exact ⟨_, rfl, fun j h0 h1 => h6 j h0 (by omega)⟩
      have e1 := of_decide_eq_true e1
      simp only [cond_true]
      rw [gd_t (inB_t h4 e1)]
      simp only [settle_First_c1, (ha _ (rd_in h4 e1)).1]
      cases e2 : c (rd T_api_Msg b0 i)
      · simp only [cond_false]
        rw [w64 (by omega) (by omega)]
        exact ih ((b0, b1, (b0.length : Int), i + 1), ()) ⟨rfl, rfl, rfl, by simp only; omega, by simp only; omega, fun j h0 h1 => by
          simp only at h1
          by_cases hj : j < i
          · exact h6 j h0 hj
          · have : j = i := by omega
            subst this; exact e2⟩ (by simp only; omega)
      · exact ⟨_, rfl, h4, e1, e2, h6⟩)
    NN ((buf, ps, (buf.length : Int), 0), ()) ⟨rfl, rfl, rfl, Int.le_refl _, by simp only; omega, fun i h0 h1 => by simp only at h1; omega⟩ (by simp only [NN]; omega)
  obtain ⟨r, h1, h2⟩ := loop
  simp only [slices_IndexFunc_s_api_Msg_api_Msg__settle_First_c1, slices_IndexFunc_s_api_Msg_api_Msg__settle_First_c1_l0, h1]
  cases r with
  | inl r => exact ⟨_, rfl, .inr h2⟩
  | inr r => exact ⟨_, rfl, .inl ⟨rfl, h2⟩⟩

theorem l2_ok {w : Int} {b : Bool} {last : Int} (hw : law09_pivots NN w = some ps) (ha : Answers ps c buf) (hb : buf.length < 60) (hl : 0 ≤ last ∧ last ≤ (buf.length : Int))
    (hc : ∀ i : Int, 0 ≤ i → i < last → c (rd T_api_Msg buf i) = false) : ∃ r, law09_SettleFirst_l2 NN NN w b last 0 buf = some (.inr r) ∧ r.1 = b := by
  have loop := iter_inv (A := ((Int × (Bool × (Unit × (Int × Int)))) × ((List (Ty.T T_api_Msg)) × Unit))) (R := ((Bool × Unit) ⊕ (Bool × Unit)))
    (f := fun rec v => law09_SettleFirst_l2_step NN (fun b0 b1 b2 b3 b4 => rec ((b0, (b1, ((), (b2, b3)))), (b4, ()))) v.1.1 v.1.2.1 v.1.2.2.2.1 v.1.2.2.2.2 v.2.1)
    (fun v => v.1.1 = w ∧ v.1.2.1 = b ∧ v.1.2.2.2.1 = last ∧ v.2.1 = buf ∧ 0 ≤ v.1.2.2.2.2 ∧ v.1.2.2.2.2 ≤ last)
    (fun r => ∃ u, r = .inr u ∧ u.1 = b) (fun v => (last - v.1.2.2.2.2).toNat)
    (by
      rintro rec ⟨⟨b0, b1, u, n, i⟩, out, _⟩ ⟨rfl, rfl, rfl, rfl, h5, h6⟩ ih
      simp only at h5 h6 hb hl ha hc
      simp only [law09_SettleFirst_l2_step]
      cases e1 : decide (i < n)
      · exact ⟨_, rfl, _, rfl, rfl⟩
      have e1 := of_decide_eq_true e1
      simp only [cond_true]
      have hi := rd_in (buf := out) h5 (by omega)
      rw [gd_t (inB_t h5 (by omega)), hw]
      have hr := (ha _ hi).1
      simp only [rd] at hr hc
      simp only [hr, hc i h5 e1, cond_false]
      rw [w64 (by omega) (by omega)]
      exact ih ((b0, b1, (), n, i + 1), out, ()) ⟨rfl, rfl, rfl, rfl, by simp only; omega, by simp only; omega⟩ (by simp only; omega))
    NN ((w, b, (), last, 0), buf, ()) ⟨rfl, rfl, rfl, rfl, Int.le_refl _, hl.1⟩ (by simp only [NN]; omega)
  obtain ⟨_, h1, u, rfl, h2⟩ := loop
  exact ⟨u, h1, h2⟩
end

theorem sanity_ok : law09_sanity NN = some true := by decide +kernel

theorem plainFirst (x : List (Ty.T T_ref05_Raw)) (w : Int) (hx : okT (.list T_ref05_Raw) x) (hw : (Lit.int .u8 w).wf = true) : law09_SettleFirst NN x w = some true := by
  obtain ⟨w0, w1⟩ := u8_of_wf hw
  obtain ⟨buf, h1, h2, h3⟩ := list_ok hx (k := 10) ⟨by decide, by decide⟩
  obtain ⟨ps, h4, h5⟩ := piv_ok w0 w1
  obtain ⟨c, ha⟩ : ∃ c, Answers ps c buf := ⟨_, good_answers h5 h3⟩
  have hb : buf.length < 60 := by omega
  obtain ⟨r, h6, h7⟩ := index_ok ha hb
  have hf : settle_First NN buf ps = some (bif decide (r < (0 : Int)) then (0 : Int) else r, decide ((0 : Int) ≤ r)) := by
    simp only [settle_First, h6]
  simp only [law09_SettleFirst, sanity_ok, h1, h4, hf]
  rcases h7 with ⟨rfl, h7⟩ | ⟨h7, h8, h9, h10⟩
  · obtain ⟨u, e1, e2⟩ := l2_ok (b := true) (last := (buf.length : Int)) h4 ha hb ⟨by omega, by omega⟩ h7
    simp [law09_SettleFirst_p1, law09_SettleFirst_p0, e1, e2, eqi]
  · have n1 : decide (r < (0 : Int)) = false := decide_eq_false (by omega)
    have n2 : decide ((0 : Int) ≤ r) = true := decide_eq_true h7
    have n3 : decide ((buf.length : Int) ≤ r) = false := decide_eq_false (by omega)
    obtain ⟨u, e1, e2⟩ := l2_ok (b := true) (last := r) h4 ha hb ⟨h7, by omega⟩ h10
    have hi := rd_in (buf := buf) h7 h8
    have hr := (ha _ hi).1
    have hk := (ha _ hi).2 h9
    rw [h9] at hr
    have p0 : law09_SettleFirst_p0 NN w true r true buf = some (true, ()) := by
      simp only [rd] at hr hk
      simp only [law09_SettleFirst_p0, cond_true, h4, hr, Bool.not_true, cond_false, e1]
      rw [gd_t (inB_t h7 h8), gd_t (inB_t h7 h8), gd_t (inB_t h7 h8)]
      obtain ⟨u1, u2⟩ := u
      simp only at e2
      subst e2
      rcases hk with hk | hk
      · rw [hk]; rfl
      · rw [hk]; rfl
    simp only [n1, n2, n3, cond_false, cond_true, Bool.not_true, law09_SettleFirst_p1, p0]
end Ds
