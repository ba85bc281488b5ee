/- The plain law of SettleFirst. -/
import Derived.Test.YtknfflpgemghmaaGreatDsMade
set_option linter.all false
namespace Ds
open Go Go.Dv
set_option maxRecDepth 100000
set_option linter.unusedVariables false

theorem rd_at {α : Type} (xs : List α) (i : Int) (d : α) (h0 : 0 ≤ i) (h1 : i < (xs.length : Int)) : ∃ (h : i.toNat < xs.length), rdL xs i d = xs[i.toNat]'h := by
  have h : i.toNat < xs.length := by omega
  refine ⟨h, ?_⟩
  simp [rdL, List.getD, h]

theorem list_ok {xs : List (V_ref05_Raw)} (hx : okT (.list T_ref05_Raw) xs) {k : Int} (hk : 0 ≤ k ∧ k ≤ 24) :
    ∃ buf, ref05_List NN xs k = some buf ∧ (buf.length : Int) ≤ k ∧ ∀ m ∈ buf, Good m := by
  have hmem : ∀ i : Int, 0 ≤ i → i < (xs.length : Int) → okT T_ref05_Raw (rdL (α := V_ref05_Raw) xs i D_ref05_Raw) := by
    intro i h0 h1
    obtain ⟨h, e⟩ := rd_at xs i _ h0 h1
    rw [e]
    exact hx.2 i.toNat _ (List.getElem?_eq_getElem h)
  have hl : (xs.length : Int) ≤ 140737488351232 := by
    have : xs.length * 6 ≤ 0x7ffffffff000 := hx.1
    omega
  have loop := iter_inv (A := ((((List (V_ref05_Raw)) × (Int × (Unit × Int))) × ((List (V_api_Msg)) × Unit)))) (R := (Unit × ((List (V_api_Msg)) × Unit)))
    (f := fun rec v => ref05_List_l0_step NN (fun b0 b1 b2 b3 => rec ((b0, (b1, ((), b2))), (b3, ()))) v.1.1 v.1.2.1 v.1.2.2.2 v.2.1)
    (fun v => v.1.1 = xs ∧ v.1.2.1 = k ∧ 0 ≤ v.1.2.2.2 ∧ v.1.2.2.2 ≤ k ∧ (v.2.1.length : Int) = v.1.2.2.2 ∧ ∀ m ∈ v.2.1, Good m)
    (fun r => (r.2.1.length : Int) ≤ k ∧ ∀ m ∈ r.2.1, Good m) (fun v => (k - v.1.2.2.2).toNat)
    (by
      rintro rec ⟨⟨b0, b1, u, i⟩, out, _⟩ ⟨rfl, rfl, h3, h4, h5, h6⟩ ih
      simp only at h3 h4 h5 h6 hl hk hmem
      simp only [ref05_List_l0_step]
      cases e1 : decide (i < (b0.length : Int))
      · exact ⟨_, rfl, by simp only; omega, h6⟩
      cases e2 : decide (i < b1)
      · exact ⟨_, rfl, by simp only; omega, h6⟩
      have e1 := of_decide_eq_true e1
      have e2 := of_decide_eq_true e2
      obtain ⟨m, hm, gm⟩ := made_ok (hmem i h3 e1)
      simp only [cond_true]
      rw [gd_t (inB_t h3 e1), hm]
      simp only
      rw [gd_t (fits_t (by simp only [maxB]; omega) (by simp only [maxB]; omega)), w64 (by omega) (by omega)]
      exact ih ((b0, b1, (), i + 1), out ++ [m], ()) ⟨rfl, rfl, by simp only; omega, by simp only; omega, by simp; omega, fun m' hm' => by
        rcases List.mem_append.1 hm' with h | h
        · exact h6 _ h
        · simp at h; subst h; exact gm⟩ (by simp only; omega))
    NN ((xs, k, (), 0), [], ()) ⟨rfl, rfl, Int.le_refl _, hk.1, rfl, fun m h => by simp at h⟩ (by simp only [NN]; omega)
  obtain ⟨r, h1, h2⟩ := loop
  exact ⟨r.2.1, by simp only [ref05_List, ref05_List_l0, h1], h2⟩
end Ds
