/- EntryTotals: totals of two lists add up. -/
import Derived.Test.YtbjchookalpoiaaDoorDsPathsB
import Derived.Test.YtbjchookalpoiaaDoorDvE
set_option linter.all false
namespace Ds
open Go Go.Dv
set_option maxRecDepth 100000
set_option linter.unusedVariables false

theorem sanity3 : law03_sanity NN = some true := by decide +kernel
def cI (q : V_api_Pair) : Int := ((entry_Charge NN q).getD (0, 0)).1
def cB (q : V_api_Pair) : Int := ((entry_Charge NN q).getD (0, 0)).2
theorem charge_ok (q : V_api_Pair) (h : q.1.length < 600000000) : entry_Charge NN q = some (cI q, cB q) ∧ (cI q = 0 ∨ cI q = 1) ∧ (cB q = 0 ∨ cI q = 0 ∧ cB q = (q.2.1.length : Int)) := by
  have key : ∃ a b, entry_Charge NN q = some (a, b) ∧ (a = 0 ∨ a = 1) ∧ (b = 0 ∨ a = 0 ∧ b = (q.2.1.length : Int)) := by
    obtain ⟨k, v, st⟩ := q
    by_cases hk : ∃ p t n m, KeyIs k p t n m
    · obtain ⟨p, t, n, m, hk⟩ := hk
      have z : eqi (0 : Int) 0 = true := rfl
      simp only [entry_Charge, Place_yes hk h, z, Bool.not_true, cond_false]
      cases eqi t 1 <;> cases eqi t 4
      · exact ⟨0, _, rfl, .inl rfl, .inr ⟨rfl, rfl⟩⟩
      · exact ⟨0, 0, rfl, .inl rfl, .inl rfl⟩
      · exact ⟨1, 0, rfl, .inr rfl, .inl rfl⟩
      · exact ⟨1, 0, rfl, .inr rfl, .inl rfl⟩
    · have hk : ∀ p t n m, ¬ KeyIs k p t n m := fun p t n m g => hk ⟨p, t, n, m, g⟩
      have z : eqi (12 : Int) 0 = false := rfl
      simp only [entry_Charge, Place_no hk h, z, Bool.not_false, cond_true]
      exact ⟨0, 0, rfl, .inl rfl, .inl rfl⟩
  obtain ⟨a, b, h1, h2, h3⟩ := key
  have e1 : cI q = a := by unfold cI; rw [h1]; rfl
  have e2 : cB q = b := by unfold cB; rw [h1]; rfl
  rw [e1, e2]
  exact ⟨h1, h2, h3⟩
abbrev Sml (q : V_api_Pair) : Prop := q.1.length < 600000000 ∧ q.2.1.length < 600000000
theorem charge_b {q : V_api_Pair} (h : Sml q) : 0 ≤ cI q ∧ cI q ≤ 1 ∧ 0 ≤ cB q ∧ cB q ≤ 600000000 := by
  obtain ⟨_, h1, h2⟩ := charge_ok q h.1
  have := h.2
  rcases h1 with h1 | h1 <;> rcases h2 with h2 | ⟨_, h2⟩ <;> omega
def sI : List V_api_Pair → Int
  | [] => 0
  | q :: r => cI q + sI r
def sB' : List V_api_Pair → Int
  | [] => 0
  | q :: r => cB q + sB' r
theorem sI_app : ∀ x y, sI (x ++ y) = sI x + sI y
  | [], y => by simp [sI]
  | q :: r, y => by simp [sI, sI_app r y]; omega
theorem sB_app : ∀ x y, sB' (x ++ y) = sB' x + sB' y
  | [], y => by simp [sB']
  | q :: r, y => by simp [sB', sB_app r y]; omega
theorem s_bound : ∀ {t : List V_api_Pair}, (∀ q ∈ t, Sml q) → 0 ≤ sI t ∧ sI t ≤ t.length ∧ 0 ≤ sB' t ∧ sB' t ≤ 600000000 * (t.length : Int)
  | [], _ => by simp [sI, sB']
  | q :: r, h => by
    have h1 := charge_b (h q (by simp))
    have h2 := s_bound (t := r) (fun q hq => h q (by simp [hq]))
    simp only [sI, sB', List.length_cons]
    omega
theorem total_l0 (l : Int) (z1 z2 : Int) : ∀ (post pre : List V_api_Pair) (n : Nat) (a b : Int), l = ((pre ++ post).length : Int) → post.length < n → (pre ++ post).length < 1000 → (∀ q ∈ post, Sml q) → 0 ≤ a → a ≤ pre.length → 0 ≤ b → b ≤ 600000000 * (pre.length : Int) →
    entry_Total_l0 NN n (pre ++ post) l (pre.length : Int) z1 z2 a b = some (((), ()), ((z1, z2), ((a + sI post, b + sB' post), ())))
  | [], pre, n + 1, a, b, hl, _, _, _, _, _, _, _ => by
    subst hl
    rw [entry_Total_l0_succ, entry_Total_l0_step, lt_end]; simp [sI, sB']
  | q :: post, pre, n + 1, a, b, hl, hn, hb, hs, a0, a1, b0, b1 => by
    have hb' : pre.length + (post.length + 1) < 1000 := by simpa using hb
    have hq := hs q (by simp)
    obtain ⟨c1, _, _⟩ := charge_ok q hq.1
    have cb := charge_b hq
    have ih := total_l0 l z1 z2 post (pre ++ [q]) n (a + cI q) (b + cB q) (by rw [hl]; simp) (by simpa using hn) (by rw [← app_mid]; exact hb) (fun x hx => hs x (by simp [hx])) (by omega) (by simp; omega) (by omega) (by simp; omega)
    rw [← app_mid] at ih
    rw [entry_Total_l0_succ, entry_Total_l0_step, hl, lt_mid, cond_true, gd_t in_mid, rd_mid, c1]
    simp only
    rw [wr_mid (q := q) (by omega), w64 (n := a + cI q) (by omega) (by omega), w64 (n := b + cB q) (by omega) (by omega), ← hl, ih]
    simp [sI, sB', Int.add_assoc]
theorem total_ok {t : List V_api_Pair} (h : t.length < 1000) (hs : ∀ q ∈ t, Sml q) : entry_Total NN t = some (sI t, sB' t) := by
  have := total_l0 (t.length : Int) 0 0 t [] NN 0 0 rfl (by simp only [NN]; omega) (by simpa using h) hs (by omega) (by simp) (by omega) (by simp)
  simp only [List.nil_append, List.length_nil] at this
  rw [show ((0 : Nat) : Int) = 0 from rfl] at this
  unfold entry_Total
  rw [this]
  simp
theorem totals_p3 (ok : Bool) (x5 x7 : List V_api_Pair) (i : Int) (q : V_api_Pair) (hi : inB i x5.length = true) (hq : rdL x5 i D_api_Pair = q) (hs : Sml q) (w1 w2 s1 s2 : Int) :
    law03_EntryTotals_p3 NN ok i x5 x7 w1 w2 s1 s2 = some (.inr ((ok, ((), ((), ((), ((), i))))), (x5, (x7, ((w1, w2), ((IntKind.wrap .i64 (s1 + cI q), IntKind.wrap .i64 (s2 + cB q)), ())))))) := by
  obtain ⟨c1, c2, c3⟩ := charge_ok q hs.1
  have cb := charge_b hs
  unfold law03_EntryTotals_p3
  rw [gd_t hi, hq, c1]
  simp only [gd_t hi, hq, law03_EntryTotals_p5, law03_EntryTotals_p4]
  rw [bif_f (by simp; omega), bif_f (by simp; omega)]
  by_cases hz : cB q = 0
  · rw [eqi_iff.2 hz]
    rcases c2 with e | e
    · simp [e, hz]
    · simp [e, hz]
  · rcases c3 with c3 | ⟨e, c3⟩
    · exact absurd c3 hz
    · rw [eqi_ne hz, eqi_iff.2 c3]
      simp [e]
theorem totals_l1 (ok : Bool) (x7 : List V_api_Pair) (w1 w2 : Int) : ∀ (post pre : List V_api_Pair) (n : Nat) (a b : Int), post.length < n → (pre ++ post).length < 1000 → (∀ q ∈ post, Sml q) → 0 ≤ a → a ≤ pre.length → 0 ≤ b → b ≤ 600000000 * (pre.length : Int) →
    law03_EntryTotals_l1 NN n ok (pre.length : Int) (pre ++ post) x7 w1 w2 a b = some (.inl (ok, ())) ∨
    law03_EntryTotals_l1 NN n ok (pre.length : Int) (pre ++ post) x7 w1 w2 a b = some (.inr ((ok, ((), ((), ((), ())))), (pre ++ post, (x7, ((w1, w2), ((a + sI post, b + sB' post), ()))))))
  | [], pre, n + 1, a, b, _, _, _, _, _, _, _ => by
    right
    rw [law03_EntryTotals_l1_succ, law03_EntryTotals_l1_step, lt_end]; simp [sI, sB']
  | q :: post, pre, n + 1, a, b, hn, hb, hs, a0, a1, b0, b1 => by
    have hb' : pre.length + (post.length + 1) < 1000 := by simpa using hb
    have hq := hs q (by simp)
    have cb := charge_b hq
    have ih := totals_l1 ok x7 w1 w2 post (pre ++ [q]) n (a + cI q) (b + cB q) (by simpa using hn) (by rw [← app_mid]; exact hb) (fun x hx => hs x (by simp [hx])) (by omega) (by simp; omega) (by omega) (by simp; omega)
    rw [← app_mid] at ih
    have e1 : a + cI q + sI post = a + sI (q :: post) := by simp [sI, Int.add_assoc]
    have e2 : b + cB q + sB' post = b + sB' (q :: post) := by simp [sB', Int.add_assoc]
    rw [e1, e2] at ih
    rw [law03_EntryTotals_l1_succ, law03_EntryTotals_l1_step, lt_mid, cond_true]
    simp only [gd_t in_mid, rd_mid]
    cases decide ((100 : Int) < (q.1.length : Int))
    · simp only [cond_false]
      cases decide ((100 : Int) < (q.2.1.length : Int))
      · simp only [cond_false]
        rw [totals_p3 ok (pre ++ q :: post) x7 (pre.length : Int) q in_mid rd_mid hq]
        simp only [law03_EntryTotals_p2]
        rw [wr_mid (q := q) (by omega), w64 (n := a + cI q) (by omega) (by omega), w64 (n := b + cB q) (by omega) (by omega)]
        exact ih
      · exact .inl rfl
    · exact .inl rfl
theorem totals_p0 {x y : List V_api_Pair} (hx : x.length ≤ 20) (hy : y.length ≤ 20) (sx : ∀ q ∈ x, Sml q) (sy : ∀ q ∈ y, Sml q) : law03_EntryTotals_p0 NN x y true = some (true, ()) := by
  have b1 := s_bound sx
  have b2 := s_bound sy
  have sxy : ∀ q ∈ x ++ y, Sml q := fun q hq => by
    rcases List.mem_append.1 hq with h | h
    · exact sx q h
    · exact sy q h
  have syx : ∀ q ∈ y ++ x, Sml q := fun q hq => by
    rcases List.mem_append.1 hq with h | h
    · exact sy q h
    · exact sx q h
  have t1 := total_ok (t := x) (by omega) sx
  have t2 := total_ok (t := y) (by omega) sy
  have t3 := total_ok (t := x ++ y) (by simp; omega) sxy
  have t4 := total_ok (t := y ++ x) (by simp; omega) syx
  have l := totals_l1 true (y ++ x) (sI x + sI y) (sB' x + sB' y) (x ++ y) [] NN 0 0 (by simp only [NN, List.length_append]; omega) (by simp; omega) sxy (by omega) (by simp) (by omega) (by simp)
  simp only [List.nil_append, List.length_nil] at l
  rw [show ((0 : Nat) : Int) = 0 from rfl] at l
  unfold law03_EntryTotals_p0
  have app : ∀ (a b : List V_api_Pair), (@HAppend.hAppend (List V_api_Pair) (List V_api_Pair) (List V_api_Pair) _ a b) = a ++ b := fun _ _ => rfl
  rw [gd_t (fits_p (by omega) (by omega)), gd_t (fits_p (by simp; omega) (by omega)), gd_t (fits_p (by omega) (by omega)), gd_t (fits_p (by simp; omega) (by omega)), t1]
  simp only
  rw [t2]
  simp only [List.nil_append]
  rw [w64 (n := sI x + sI y) (by omega) (by omega), w64 (n := sB' x + sB' y) (by omega) (by omega)]
  rcases l with l | l
  · rw [l]
  · rw [l]
    simp only [cond_true]
    rw [t3]
    simp only
    rw [t4]
    simp only [sI_app, sB_app, Int.zero_add]
    rw [Int.add_comm (sI y), Int.add_comm (sB' y)]
    simp
theorem plainTotals {R : Nat} (hR : R < 600000000) (x y : List V_api_Pair) (hx : okShU R (.list T_api_Pair) x) (hy : okShU R (.list T_api_Pair) y) : law03_EntryTotals NN x y = some true := by
  have sm : ∀ {l : List V_api_Pair}, okShU R (.list T_api_Pair) l → ∀ q ∈ l, Sml q := fun {l} h q hq => by
    obtain ⟨i, hi⟩ := List.getElem?_of_mem hq
    obtain ⟨h1, h2, _⟩ := h.2 i q hi
    have h1 : List.length q.1 ≤ R := h1
    have h2 : List.length q.2.1 ≤ R := h2
    exact ⟨by omega, by omega⟩
  unfold law03_EntryTotals
  rw [sanity3]
  simp only
  by_cases h1 : (20 : Int) < (x.length : Int)
  · rw [bif_t (by simpa using h1)]
  · rw [bif_f (by simpa using h1)]
    by_cases h2 : (20 : Int) < (y.length : Int)
    · rw [bif_t (by simpa using h2)]
    · rw [bif_f (by simpa using h2), totals_p0 (by omega) (by omega) (sm hx) (sm hy)]
end Ds
