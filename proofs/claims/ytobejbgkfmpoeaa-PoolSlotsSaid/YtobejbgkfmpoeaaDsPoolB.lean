/- The code's walks are the walk in plain words. -/
import Derived.Test.YtobejbgkfmpoeaaDsPoolA
import Derived.Test.YtobejbgkfmpoeaaDvD
set_option linter.all false
namespace Ds
open Go Go.Dv
set_option maxRecDepth 100000
set_option linter.unusedVariables false

/-! ## the code's walk: the ids themselves -/
abbrev tupB (p : List Sl) (s : DS) : (Unit × ((List V_api_Slot) × (Unit × ((List Int) × (Bool × ((Unit × (Unit × (Unit × (Unit × Unit)))) × (Unit × (Unit × ((List Int) × Unit))))))))) := ((), (p, ((), (s.st, (s.fine, (((), ((), ((), ((), ())))), ((), ((), (s.out, ())))))))))

theorem loop_b (N n : Nat) (p : List Sl) (id : Int) (K : Nat) (hK : K < 1000000)
    (ih : ∀ (id : Int) (s : DS), V3 s → s.st.length = p.length → s.white < n → s.out.length + s.white ≤ K → pool_visit_c1_m_b_fuel N n id p s.st s.fine s.out = some (tupB p (dfs p n id s))) :
    ∀ (post pre : List Int) (m : Nat) (s : DS), post.length < m → (pre ++ post).length < 1000000 → V3 s → s.st.length = p.length → s.white < n → s.out.length + s.white ≤ K →
      pool_visit_c1_m_b_l0 N (fun a0 a1 a2 a3 a4 => pool_visit_c1_m_b_fuel N n a0 a1 a2 a3 a4) m id (pre ++ post) ((pre ++ post).length : Int) (pre.length : Int) s.st p s.fine s.out =
        some ((id, ((), ())), ((), ((dfsL p n post s).st, ((), ((), ((dfsL p n post s).out, (p, ((dfsL p n post s).fine, (((), ((), ((), ((), ())))), ())))))))))
  | [], pre, 0, s, h, _, _, _, _, _ => absurd h (Nat.not_lt_zero _)
  | k :: post, pre, 0, s, h, _, _, _, _, _ => absurd h (Nat.not_lt_zero _)
  | [], pre, m + 1, s, _, _, _, _, _, _ => by
    rw [pool_visit_c1_m_b_l0_succ]
    simp only [pool_visit_c1_m_b_l0_step, List.append_nil, Int.lt_irrefl, decide_false, cond_false]
    rfl
  | k :: post, pre, m + 1, s, hm, hl, hv, hs, hw, ho => by
    have a := dfs_post p n k s hv hs hw
    have ih2 := loop_b N n p id K hK ih post (pre ++ [k]) m (dfs p n k s) (by simp at hm; omega) (by simpa using hl) a.v3 (a.len.trans hs) (Nat.lt_of_le_of_lt a.wh hw) (Nat.le_trans a.ol ho)
    rw [pool_visit_c1_m_b_l0_succ]
    simp only [pool_visit_c1_m_b_l0_step, lt_mid, in_mid, rd_mid, cond_true]
    rw [gd_t rfl, ih k s hv hs hw ho]
    simp only [tupB]
    rw [wr_mid (q := k) (by simp at hl; omega), app_mid]
    exact ih2

theorem visit_b (N : Nat) (p : List Sl) (K : Nat) (hK : K < 1000000) (hk : ∀ s ∈ p, (kidsS s).length < 1000000) (hN : 1000000 ≤ N) : ∀ (n : Nat) (id : Int) (s : DS), V3 s → s.st.length = p.length → s.white < n → s.out.length + s.white ≤ K →
    pool_visit_c1_m_b_fuel N n id p s.st s.fine s.out = some (tupB p (dfs p n id s))
  | 0, _, _, _, _, hw, _ => absurd hw (Nat.not_lt_zero _)
  | n + 1, id, s, hv, hl, hw, ho => by
    rw [pool_visit_c1_m_b_fuel_succ]
    unfold pool_visit_c1_m_b_step dfs
    simp only [pool_used_eq]
    by_cases hu : usedB p id = true
    · have h0 := used_nn hu
      have h1 := used_lt hu
      have h1s : id < (s.st.length : Int) := by rw [hl]; exact h1
      rw [hu]
      simp only [Bool.not_true, cond_false]
      rw [gd_t (inB_t h0 h1s)]
      rcases hv id with e | e | e
      · have e' : rdL s.st id 0 = 0 := e
        rw [bif_f (by rw [e']; rfl), gd_t (inB_t h0 h1s), bif_f (by rw [e']; rfl), gd_t (inB_t h0 h1s), gd_t (inB_t h0 h1)]
        rw [if_neg (by simp [e']), if_neg (by simp [e'])]
        have hw0 := count_set0 (y := 1) h0 h1s (by decide)
        rw [if_pos e'] at hw0
        have hww : s.white = s.st.count 0 := rfl
        have hv1 : V3 ⟨setL s.st id 1, s.fine, s.out⟩ := v3_set hv h0 h1s (.inl rfl)
        have hl1 : (DS.mk (setL s.st id 1) s.fine s.out).st.length = p.length := by simpa using hl
        have hw1 : (DS.mk (setL s.st id 1) s.fine s.out).white < n := by show (setL s.st id 1).count 0 < n; omega
        have hk' : (kidsS (slA p id)).length < 1000000 := hk _ (rd_mem h0 h1)
        have hlp := loop_b N n p id K hK (visit_b N p K hK hk hN n) (kidsS (slA p id)) [] N ⟨setL s.st id 1, s.fine, s.out⟩ (by omega) (by simpa using hk') hv1 hl1 hw1 (by show s.out.length + (setL s.st id 1).count 0 ≤ K; omega)
        have hpost := dfsL_post (dfs_post p n) (kidsS (slA p id)) ⟨setL s.st id 1, s.fine, s.out⟩ hv1 hl1 hw1
        have hlp' : pool_visit_c1_m_b_l0 N (fun a0 a1 a2 a3 a4 => pool_visit_c1_m_b_fuel N n a0 a1 a2 a3 a4) N id (((((((rdL p id D_api_Slot).2).2).2).2).2).1) (List.length (((((((rdL p id D_api_Slot).2).2).2).2).2).1) : Int) (0 : Int) (setL s.st id (1 : Int)) p s.fine s.out = _ := hlp
        rw [hlp']
        simp only
        have hgl : id < ((dfsL p n (kidsS (slA p id)) ⟨setL s.st id 1, s.fine, s.out⟩).st.length : Int) := by rw [hpost.len]; simpa using h1s
        rw [gd_t (inB_t h0 hgl)]
        have hol := hpost.ol
        have hol2 : (dfsL p n (kidsS (slA p id)) ⟨setL s.st id 1, s.fine, s.out⟩).out.length < 1000000 := by
          have : (DS.mk (setL s.st id 1) s.fine s.out).out.length + (DS.mk (setL s.st id 1) s.fine s.out).white = s.out.length + (setL s.st id 1).count 0 := rfl
          omega
        have hr : ∀ o : List Int, o.length < 1000000 → pool_Reach_c1_m N id o = some ((), ((), (o ++ [id], ()))) := by
          intro o hoo
          unfold pool_Reach_c1_m
          rw [gd_t (fits_p (by omega) (by omega))]
        rw [hr _ hol2]
        rfl
      · have e' : rdL s.st id 0 = 1 := e
        rw [bif_f (by rw [e']; rfl), gd_t (inB_t h0 h1s), bif_t (by rw [e']; rfl)]
        rw [if_neg (by simp [e']), if_pos e']
      · have e' : rdL s.st id 0 = 2 := e
        rw [bif_t (by rw [e']; rfl), if_pos (.inr e')]
    · have hu' : usedB p id = false := by simpa using hu
      rw [hu', if_pos (.inl rfl)]
      rfl

theorem roots_b (N : Nat) (p : List Sl) (K : Nat) (hK : K < 1000000) (hk : ∀ s ∈ p, (kidsS s).length < 1000000) (hN : 1000000 ≤ N) :
    ∀ (post pre : List Int) (m : Nat) (s : DS), post.length < m → (pre ++ post).length < 1000000 → V3 s → s.st.length = p.length → s.white < N → s.out.length + s.white ≤ K →
      pool_visit_m__pool_Reach_c1_l0 N m (pre ++ post) ((pre ++ post).length : Int) (pre.length : Int) s.fine p s.st s.out =
        some ((), ((dfsL p N post s).fine, ((), ((dfsL p N post s).out, ()))))
  | [], pre, 0, s, h, _, _, _, _, _ => absurd h (Nat.not_lt_zero _)
  | k :: post, pre, 0, s, h, _, _, _, _, _ => absurd h (Nat.not_lt_zero _)
  | [], pre, m + 1, s, _, _, _, _, _, _ => by
    rw [pool_visit_m__pool_Reach_c1_l0_succ]
    simp only [pool_visit_m__pool_Reach_c1_l0_step, List.append_nil, Int.lt_irrefl, decide_false, cond_false]
    rfl
  | k :: post, pre, m + 1, s, hm, hl, hv, hs, hw, ho => by
    have a := dfs_post p N k s hv hs hw
    have ih2 := roots_b N p K hK hk hN post (pre ++ [k]) m (dfs p N k s) (by simp at hm; omega) (by simpa using hl) a.v3 (a.len.trans hs) (Nat.lt_of_le_of_lt a.wh hw) (Nat.le_trans a.ol ho)
    rw [pool_visit_m__pool_Reach_c1_l0_succ]
    simp only [pool_visit_m__pool_Reach_c1_l0_step, lt_mid, in_mid, rd_mid, cond_true]
    have hvv : pool_visit_c1_m_b N k p s.st s.fine s.out = some (tupB p (dfs p N k s)) := visit_b N p K hK hk hN N k s hv hs hw ho
    rw [gd_t rfl, hvv]
    simp only [tupB]
    rw [wr_mid (q := k) (by simp at hl; omega), app_mid]
    exact ih2

/-! ## the code's walk: their number -/
abbrev tupA (p : List Sl) (s : DS) : (Unit × ((List V_api_Slot) × (Unit × ((List Int) × (Bool × ((Unit × (Unit × (Unit × (Unit × Unit)))) × (Unit × (Int × Unit)))))))) := ((), (p, ((), (s.st, (s.fine, (((), ((), ((), ((), ())))), ((), ((s.out.length : Int), ()))))))))

theorem loop_a (N n : Nat) (p : List Sl) (id : Int) (K : Nat) (hK : K < 1000000)
    (ih : ∀ (id : Int) (s : DS), V3 s → s.st.length = p.length → s.white < n → s.out.length + s.white ≤ K → pool_visit_c1_m_a_fuel N n id p s.st s.fine (s.out.length : Int) = some (tupA p (dfs p n id s))) :
    ∀ (post pre : List Int) (m : Nat) (s : DS), post.length < m → (pre ++ post).length < 1000000 → V3 s → s.st.length = p.length → s.white < n → s.out.length + s.white ≤ K →
      pool_visit_c1_m_a_l0 N (fun a0 a1 a2 a3 a4 => pool_visit_c1_m_a_fuel N n a0 a1 a2 a3 a4) m id (pre ++ post) ((pre ++ post).length : Int) (pre.length : Int) s.st p s.fine (s.out.length : Int) =
        some ((id, ((), ())), ((), ((dfsL p n post s).st, ((), (((dfsL p n post s).out.length : Int), (p, ((dfsL p n post s).fine, (((), ((), ((), ((), ())))), ()))))))))
  | [], pre, 0, s, h, _, _, _, _, _ => absurd h (Nat.not_lt_zero _)
  | k :: post, pre, 0, s, h, _, _, _, _, _ => absurd h (Nat.not_lt_zero _)
  | [], pre, m + 1, s, _, _, _, _, _, _ => by
    rw [pool_visit_c1_m_a_l0_succ]
    simp only [pool_visit_c1_m_a_l0_step, List.append_nil, Int.lt_irrefl, decide_false, cond_false]
    rfl
  | k :: post, pre, m + 1, s, hm, hl, hv, hs, hw, ho => by
    have a := dfs_post p n k s hv hs hw
    have ih2 := loop_a N n p id K hK ih post (pre ++ [k]) m (dfs p n k s) (by simp at hm; omega) (by simpa using hl) a.v3 (a.len.trans hs) (Nat.lt_of_le_of_lt a.wh hw) (Nat.le_trans a.ol ho)
    rw [pool_visit_c1_m_a_l0_succ]
    simp only [pool_visit_c1_m_a_l0_step, lt_mid, in_mid, rd_mid, cond_true]
    rw [gd_t rfl, ih k s hv hs hw ho]
    simp only [tupA]
    rw [wr_mid (q := k) (by simp at hl; omega), app_mid]
    exact ih2

theorem visit_a (N : Nat) (p : List Sl) (K : Nat) (hK : K < 1000000) (hk : ∀ s ∈ p, (kidsS s).length < 1000000) (hN : 1000000 ≤ N) : ∀ (n : Nat) (id : Int) (s : DS), V3 s → s.st.length = p.length → s.white < n → s.out.length + s.white ≤ K →
    pool_visit_c1_m_a_fuel N n id p s.st s.fine (s.out.length : Int) = some (tupA p (dfs p n id s))
  | 0, _, _, _, _, hw, _ => absurd hw (Nat.not_lt_zero _)
  | n + 1, id, s, hv, hl, hw, ho => by
    rw [pool_visit_c1_m_a_fuel_succ]
    unfold pool_visit_c1_m_a_step dfs
    simp only [pool_used_eq]
    by_cases hu : usedB p id = true
    · have h0 := used_nn hu
      have h1 := used_lt hu
      have h1s : id < (s.st.length : Int) := by rw [hl]; exact h1
      rw [hu]
      simp only [Bool.not_true, cond_false]
      rw [gd_t (inB_t h0 h1s)]
      rcases hv id with e | e | e
      · have e' : rdL s.st id 0 = 0 := e
        rw [bif_f (by rw [e']; rfl), gd_t (inB_t h0 h1s), bif_f (by rw [e']; rfl), gd_t (inB_t h0 h1s), gd_t (inB_t h0 h1)]
        rw [if_neg (by simp [e']), if_neg (by simp [e'])]
        have hw0 := count_set0 (y := 1) h0 h1s (by decide)
        rw [if_pos e'] at hw0
        have hww : s.white = s.st.count 0 := rfl
        have hv1 : V3 ⟨setL s.st id 1, s.fine, s.out⟩ := v3_set hv h0 h1s (.inl rfl)
        have hl1 : (DS.mk (setL s.st id 1) s.fine s.out).st.length = p.length := by simpa using hl
        have hw1 : (DS.mk (setL s.st id 1) s.fine s.out).white < n := by show (setL s.st id 1).count 0 < n; omega
        have hk' : (kidsS (slA p id)).length < 1000000 := hk _ (rd_mem h0 h1)
        have hlp := loop_a N n p id K hK (visit_a N p K hK hk hN n) (kidsS (slA p id)) [] N ⟨setL s.st id 1, s.fine, s.out⟩ (by omega) (by simpa using hk') hv1 hl1 hw1 (by show s.out.length + (setL s.st id 1).count 0 ≤ K; omega)
        have hpost := dfsL_post (dfs_post p n) (kidsS (slA p id)) ⟨setL s.st id 1, s.fine, s.out⟩ hv1 hl1 hw1
        have hlp' : pool_visit_c1_m_a_l0 N (fun a0 a1 a2 a3 a4 => pool_visit_c1_m_a_fuel N n a0 a1 a2 a3 a4) N id (((((((rdL p id D_api_Slot).2).2).2).2).2).1) (List.length (((((((rdL p id D_api_Slot).2).2).2).2).2).1) : Int) (0 : Int) (setL s.st id (1 : Int)) p s.fine (s.out.length : Int) = _ := hlp
        rw [hlp']
        simp only
        have hgl : id < ((dfsL p n (kidsS (slA p id)) ⟨setL s.st id 1, s.fine, s.out⟩).st.length : Int) := by rw [hpost.len]; simpa using h1s
        rw [gd_t (inB_t h0 hgl)]
        have hol := hpost.ol
        have hol2 : (dfsL p n (kidsS (slA p id)) ⟨setL s.st id 1, s.fine, s.out⟩).out.length < 1000000 := by
          have : (DS.mk (setL s.st id 1) s.fine s.out).out.length + (DS.mk (setL s.st id 1) s.fine s.out).white = s.out.length + (setL s.st id 1).count 0 := rfl
          omega
        have hr : ∀ o : List Int, o.length < 1000000 → pool_Sound_c2_m N id (o.length : Int) = some ((), (((o ++ [id]).length : Int), ())) := by
          intro o hoo
          unfold pool_Sound_c2_m
          rw [w64 (by omega) (by omega)]
          simp
        rw [hr _ hol2]
        rfl
      · have e' : rdL s.st id 0 = 1 := e
        rw [bif_f (by rw [e']; rfl), gd_t (inB_t h0 h1s), bif_t (by rw [e']; rfl)]
        rw [if_neg (by simp [e']), if_pos e']
      · have e' : rdL s.st id 0 = 2 := e
        rw [bif_t (by rw [e']; rfl), if_pos (.inr e')]
    · have hu' : usedB p id = false := by simpa using hu
      rw [hu', if_pos (.inl rfl)]
      rfl

theorem roots_a (N : Nat) (p : List Sl) (K : Nat) (hK : K < 1000000) (hk : ∀ s ∈ p, (kidsS s).length < 1000000) (hN : 1000000 ≤ N) :
    ∀ (post pre : List Int) (m : Nat) (s : DS), post.length < m → (pre ++ post).length < 1000000 → V3 s → s.st.length = p.length → s.white < N → s.out.length + s.white ≤ K →
      pool_visit_m__pool_Sound_c2_l0 N m (pre ++ post) ((pre ++ post).length : Int) (pre.length : Int) s.fine p s.st (s.out.length : Int) =
        some ((), ((dfsL p N post s).fine, (((dfsL p N post s).out.length : Int), ())))
  | [], pre, 0, s, h, _, _, _, _, _ => absurd h (Nat.not_lt_zero _)
  | k :: post, pre, 0, s, h, _, _, _, _, _ => absurd h (Nat.not_lt_zero _)
  | [], pre, m + 1, s, _, _, _, _, _, _ => by
    rw [pool_visit_m__pool_Sound_c2_l0_succ]
    simp only [pool_visit_m__pool_Sound_c2_l0_step, List.append_nil, Int.lt_irrefl, decide_false, cond_false]
    rfl
  | k :: post, pre, m + 1, s, hm, hl, hv, hs, hw, ho => by
    have a := dfs_post p N k s hv hs hw
    have ih2 := roots_a N p K hK hk hN post (pre ++ [k]) m (dfs p N k s) (by simp at hm; omega) (by simpa using hl) a.v3 (a.len.trans hs) (Nat.lt_of_le_of_lt a.wh hw) (Nat.le_trans a.ol ho)
    rw [pool_visit_m__pool_Sound_c2_l0_succ]
    simp only [pool_visit_m__pool_Sound_c2_l0_step, lt_mid, in_mid, rd_mid, cond_true]
    have hvv : pool_visit_c1_m_a N k p s.st s.fine (s.out.length : Int) = some (tupA p (dfs p N k s)) := visit_a N p K hK hk hN N k s hv hs hw ho
    rw [gd_t rfl, hvv]
    simp only [tupA]
    rw [wr_mid (q := k) (by simp at hl; omega), app_mid]
    exact ih2

end Ds

/- Reach of both packages gives the ids that are reached, in order. -/
namespace Ds
open Go Go.Dv
set_option maxRecDepth 100000
set_option linter.unusedVariables false

theorem asc_of : ∀ {l : List Int}, l.Pairwise (fun a b => decide (a ≤ b) = true) → l.Nodup → l.Pairwise (· < ·)
  | [], _, _ => List.Pairwise.nil
  | x :: l, h, g => by
    obtain ⟨h1, h2⟩ := List.pairwise_cons.1 h
    obtain ⟨g1, g2⟩ := List.nodup_cons.1 g
    refine List.pairwise_cons.2 ⟨fun y hy => ?_, asc_of h2 g2⟩
    have : x ≤ y := by simpa using h1 y hy
    have : x ≠ y := fun e => g1 (e ▸ hy)
    omega

theorem sortI_asc {l : List Int} (h : l.Nodup) : (sortI l).Pairwise (· < ·) := by
  refine asc_of ?_ ?_
  · refine List.pairwise_mergeSort (fun a b c x y => ?_) (fun a b => ?_) l
    · simp only [decide_eq_true_eq] at x y ⊢; omega
    · simp only [Bool.or_eq_true, decide_eq_true_eq]; omega
  · exact (List.mergeSort_perm l _).nodup_iff.2 h
theorem mem_sortI {l : List Int} {x : Int} : x ∈ sortI l ↔ x ∈ l := (List.mergeSort_perm l _).mem_iff

theorem gd_len {α R : Type} (p : List α) (b : Int) (h : p.length ≤ 100000) (hb : 0 ≤ b) (hb2 : b ≤ 1000) (k : Option R) : gd ((decide (0 ≤ (List.length p : Int)) && decide ((List.length p : Int) ≤ (List.length p : Int))) && (decide ((List.length p : Int) < maxB) && decide ((List.length p : Int) * b < maxB))) k = k := by
  have hmx : (maxB : Int) = 4398046511104 := rfl
  refine gd_t ?_ k
  simp only [Bool.and_eq_true, decide_eq_true_eq, hmx]
  refine ⟨⟨by omega, by omega⟩, by omega, ?_⟩
  have : (p.length : Int) * b ≤ 100000 * 1000 := Int.mul_le_mul (by omega) hb2 hb (by omega)
  omega

theorem pool_Reach_ok {N : Nat} (hN : 2000000 ≤ N) {p : List Sl} {R : List Int} (hl : p.length ≤ 100000) (hk : ∀ s ∈ p, (kidsS s).length < 1000000) (hR : R.length < 1000000) : ∃ out, pool_Reach N p R = some out ∧ IsReach p R out := by
  obtain ⟨s, hs, h1, h2, h3, h4, h5⟩ := walk_ok (p := p) (n := N) (by omega) R
  obtain ⟨s0, hs0⟩ : ∃ s0 : DS, s0 = ⟨List.replicate p.length 0, true, []⟩ := ⟨_, rfl⟩
  have c0 : ∀ i, s0.c i = 0 := fun i => by rw [hs0]; simp only [DS.c, rdL, List.getD_eq_getElem?_getD, List.getElem?_replicate]; split <;> rfl
  have hw : s0.white ≤ p.length := by rw [hs0]; exact Nat.le_trans List.count_le_length (by simp)
  have hr := roots_b N p p.length (by omega) hk (by omega) R [] N s0 (by omega) (by simpa using hR) (fun i => .inl (c0 i)) (by rw [hs0]; simp) (by omega) (by rw [hs0] at hw ⊢; simpa using hw)
  refine ⟨sortI s.out, ?_, sortI_asc h1, fun i => mem_sortI.trans (h2 i)⟩
  unfold pool_Reach pool_visit_m__pool_Reach_c1
  rw [gd_len p 8 hl (by omega) (by omega)]
  have hr' : pool_visit_m__pool_Reach_c1_l0 N N R (List.length R : Int) (0 : Int) true p (List.replicate (Int.toNat (List.length p : Int)) (0 : Int)) ([] : List Int) = some ((), (s.fine, ((), (s.out, ())))) := by
    rw [← hs, ← hs0]
    rw [hs0] at hr ⊢
    exact hr
  dsimp only
  rw [hr']
  simp only [slices_Sort_s_int_int_m]
  rw [gd_t (by simp only [Nat.blt_eq]; omega)]

/-! ## the reference -/
def rem : List Sl → List Bool → Nat
  | s :: p, b :: ks => (if b = true then 0 else (kidsU s).length) + rem p ks
  | _, _ => 0

theorem rem_start : ∀ p : List Sl, rem p (List.replicate p.length false) = (allKids p).length
  | [] => rfl
  | s :: p => by
    simp only [List.length_cons, List.replicate_succ, rem, allKids, List.flatMap_cons, List.length_append]
    have := rem_start p
    unfold allKids at this
    simp [this]

theorem rem_set : ∀ (p : List Sl) (ks : List Bool) (n : Nat) (h : n < p.length) (h' : n < ks.length), ks[n] = false → rem p (ks.set n true) + (kidsU p[n]).length = rem p ks
  | [], _, _, h, _, _ => absurd h (Nat.not_lt_zero _)
  | s :: p, [], _, _, h, _ => absurd h (Nat.not_lt_zero _)
  | s :: p, b :: ks, 0, _, _, e => by
    have e : b = false := e
    subst e
    simp [rem]; omega
  | s :: p, b :: ks, n + 1, h, h', e => by
    have := rem_set p ks n (by simpa using h) (by simpa using h') e
    simp only [List.set_cons_succ, rem, List.getElem_cons_succ]; omega

theorem bfs (N : Nat) (p : List Sl) (R : List Int) : ∀ (n : Nat) (todo : List Int) (known : List Bool), known.length = p.length → todo.length + rem p known < n → todo.length + rem p known < 1000000 →
    (∀ i, 0 ≤ i → i < (p.length : Int) → rdL known i false = true → Rch p R i) → (∀ k ∈ todo, usedB p k = true → Rch p R k) → (∀ k ∈ R, usedB p k = true → rdL known k false = true ∨ k ∈ todo) →
    (∀ i, 0 ≤ i → i < (p.length : Int) → rdL known i false = true → ∀ k ∈ kidsS (slA p i), usedB p k = true → rdL known k false = true ∨ k ∈ todo) →
    ∃ known', ref11_Reach_l0 N n todo p known = some ((), (known', ())) ∧ known'.length = p.length ∧ ∀ i, 0 ≤ i → i < (p.length : Int) → (rdL known' i false = true ↔ Rch p R i)
  | 0, _, _, _, h, _, _, _, _, _ => absurd h (Nat.not_lt_zero _)
  | n + 1, [], known, hl, _, _, hA, hB, hC, hD => by
    refine ⟨known, ?_, hl, fun i h0 h1 => ⟨hA i h0 h1, fun h => ?_⟩⟩
    · rw [ref11_Reach_l0_succ]; simp [ref11_Reach_l0_step]
    · clear h0 h1
      induction h with
      | root hk hu =>
        rcases hC _ hk hu with h | h
        · exact h
        · cases h
      | kid hr hk hu ih =>
        rcases hD _ (used_nn hr.used) (used_lt hr.used) ih _ hk hu with h | h
        · exact h
        · cases h
  | n + 1, k :: rest, known, hl, hn, hb, hA, hB, hC, hD => by
    simp only [List.length_cons] at hn hb
    have hrd : rdL (k :: rest) (0 : Int) (0 : Int) = k := rfl
    rw [ref11_Reach_l0_succ]
    simp only [ref11_Reach_l0_step, hrd, cut2_tail, ref_used_eq]
    rw [bif_t (by simp <;> omega), gd_t (inB_t (by omega) (by simp <;> omega)), gd_t (by simp <;> omega)]
    have skip : (usedB p k = true → rdL known k false = true) → ∃ known', ref11_Reach_l0 N n rest p known = some ((), (known', ())) ∧ known'.length = p.length ∧ ∀ i, 0 ≤ i → i < (p.length : Int) → (rdL known' i false = true ↔ Rch p R i) := by
      intro hsk
      refine bfs N p R n rest known hl (by omega) (by omega) hA (fun j hj => hB j (by simp [hj])) (fun j hj hu => ?_) (fun i h0 h1 hi j hj hu => ?_)
      · rcases hC j hj hu with h | h
        · exact .inl h
        · rcases List.mem_cons.1 h with rfl | h
          · exact .inl (hsk hu)
          · exact .inr h
      · rcases hD i h0 h1 hi j hj hu with h | h
        · exact .inl h
        · rcases List.mem_cons.1 h with rfl | h
          · exact .inl (hsk hu)
          · exact .inr h
    cases hu : usedB p k with
    | false =>
      simp only [cond_false]
      exact skip (fun h => by rw [hu] at h; cases h)
    | true =>
      have h0 := used_nn hu
      have h1 := used_lt hu
      have h1k : k < (known.length : Int) := by rw [hl]; exact h1
      simp only [cond_true]
      rw [gd_t (inB_t h0 h1k)]
      cases hkn : rdL known k false with
      | true =>
        simp only [Bool.not_true, cond_false]
        exact skip (fun _ => hkn)
      | false =>
        simp only [Bool.not_false, cond_true]
        rw [gd_t (inB_t h0 h1k)]
        have hr := rem_set p known k.toNat (by omega) (by omega) (by
          have := hkn
          simp only [rdL] at this
          rw [List.getD_eq_getElem?_getD, List.getElem?_eq_getElem (by omega)] at this
          exact this)
        rw [← slA_get (by omega), kidsU, if_pos (usedB_iff.1 hu).2.2] at hr
        have hr : rem p (setL known k true) + (kidsS (slA p k)).length = rem p known := hr
        rw [gd_t (fits_p (by omega) (by omega)), gd_t (inB_t h0 h1)]
        have hx : (rdL p k D_api_Slot).2.2.2.2.2.1 = kidsS (slA p k) := rfl
        rw [hx, gd_t (fits_p (by simp; omega) (by omega))]
        have hset : ∀ i, 0 ≤ i → i < (p.length : Int) → (rdL (setL known k true) i false = true ↔ i = k ∨ rdL known i false = true) := by
          intro i hi hi1
          by_cases e : i = k
          · subst e; rw [rd_set_same h0 h1k]; simp
          · rw [rd_set_other h0 hi e]; simp [e]
        refine bfs N p R n (rest ++ kidsS (slA p k)) (setL known k true) (by simpa using hl) (by rw [List.length_append]; omega) (by rw [List.length_append]; omega) ?_ ?_ ?_ ?_
        · intro i hi hi1 h
          rcases (hset i hi hi1).1 h with rfl | h
          · exact hB i (by simp) hu
          · exact hA i hi hi1 h
        · intro j hj hju
          rcases List.mem_append.1 hj with h | h
          · exact hB j (by simp [h]) hju
          · exact .kid (hB k (by simp) hu) h hju
        · intro j hj hju
          have hj0 := used_nn hju
          have hj1 := used_lt hju
          rw [hset j hj0 hj1]
          rcases hC j hj hju with h | h
          · exact .inl (.inr h)
          · rcases List.mem_cons.1 h with rfl | h
            · exact .inl (.inl rfl)
            · exact .inr (List.mem_append.2 (.inl h))
        · intro i hi hi1 h j hj hju
          have hj0 := used_nn hju
          have hj1 := used_lt hju
          rw [hset j hj0 hj1]
          rcases (hset i hi hi1).1 h with rfl | h
          · exact .inr (List.mem_append.2 (.inr hj))
          · rcases hD i hi hi1 h j hj hju with h | h
            · exact .inl (.inr h)
            · rcases List.mem_cons.1 h with rfl | h
              · exact .inl (.inl rfl)
              · exact .inr (List.mem_append.2 (.inl h))

/-- the places of a list of booleans that are true -/
def enumB : Int → List Bool → List Int
  | _, [] => []
  | i, b :: bs => if b = true then i :: enumB (i + 1) bs else enumB (i + 1) bs

theorem mem_enumB : ∀ (bs : List Bool) (i j : Int), j ∈ enumB i bs ↔ i ≤ j ∧ j < i + bs.length ∧ rdL bs (j - i) false = true
  | [], i, j => by simp [enumB]; omega
  | b :: bs, i, j => by
    have ih := mem_enumB bs (i + 1) j
    have hlow : j ∈ enumB (i + 1) bs → i + 1 ≤ j := fun h => (ih.1 h).1
    have hsucc : i + 1 ≤ j → rdL (b :: bs) (j - i) false = rdL bs (j - (i + 1)) false := by
      intro h
      have : (j - i).toNat = (j - (i + 1)).toNat + 1 := by omega
      simp [rdL, this]
    have hz : rdL (b :: bs) (i - i) false = b := by simp [rdL]
    have hmain : j ∈ enumB i (b :: bs) ↔ (j = i ∧ b = true) ∨ j ∈ enumB (i + 1) bs := by
      simp only [enumB]
      split
      · rename_i h; simp [h]
      · rename_i h; simp [h]
    rw [hmain]
    constructor
    · rintro (⟨rfl, hb⟩ | h)
      · exact ⟨Int.le_refl _, by simp <;> omega, by rw [hz]; exact hb⟩
      · obtain ⟨a, c, d⟩ := ih.1 h
        exact ⟨by omega, by simp; omega, by rw [hsucc a]; exact d⟩
    · rintro ⟨a, c, d⟩
      by_cases e : j = i
      · subst e; rw [hz] at d; exact .inl ⟨rfl, d⟩
      · refine .inr (ih.2 ⟨by omega, by simp at c; omega, ?_⟩)
        rw [← hsucc (by omega)]; exact d

theorem asc_enumB : ∀ (bs : List Bool) (i : Int), (enumB i bs).Pairwise (· < ·)
  | [], _ => List.Pairwise.nil
  | b :: bs, i => by
    simp only [enumB]
    split
    · exact List.pairwise_cons.2 ⟨fun j hj => by have := ((mem_enumB bs (i + 1) j).1 hj).1; omega, asc_enumB bs (i + 1)⟩
    · exact asc_enumB bs (i + 1)

theorem len_enumB : ∀ (bs : List Bool) (i : Int), (enumB i bs).length = bs.countP (fun b => b)
  | [], _ => rfl
  | b :: bs, i => by
    have := len_enumB bs (i + 1)
    cases b <;> simp [enumB, this]

theorem reach_l1 (N : Nat) : ∀ (post pre : List Bool) (m : Nat) (out : List Int), post.length < m → (pre ++ post).length + post.length + out.length < 1000000 →
    ref11_Reach_l1 N m (pre.length : Int) (pre ++ post) out = some ((), (out ++ enumB (pre.length : Int) post, ()))
  | [], _, 0, _, h, _ => absurd h (Nat.not_lt_zero _)
  | _ :: _, _, 0, _, h, _ => absurd h (Nat.not_lt_zero _)
  | [], pre, m + 1, out, _, _ => by
    rw [ref11_Reach_l1_succ]
    simp only [ref11_Reach_l1_step, List.append_nil, Int.lt_irrefl, decide_false, cond_false, enumB]
  | b :: post, pre, m + 1, out, hm, hb => by
    simp only [List.length_append, List.length_cons] at hb
    rw [ref11_Reach_l1_succ]
    simp only [ref11_Reach_l1_step, lt_mid, in_mid, rd_mid, cond_true]
    rw [gd_t rfl, wr_mid (q := b) (by omega), app_mid (pre := pre) (q := b) (post := post)]
    have e : (pre.length : Int) + 1 = ((pre ++ [b]).length : Int) := by simp
    cases b with
    | true =>
      simp only [cond_true]
      rw [gd_t (fits_p (by omega) (by omega)), reach_l1 N post (pre ++ [true]) m (out ++ [(pre.length : Int)]) (by simp only [List.length_cons] at hm; omega) (by simp only [List.length_append, List.length_cons, List.length_nil]; omega)]
      simp only [enumB, if_true, e, List.append_assoc, List.singleton_append]
    | false =>
      simp only [cond_false]
      rw [reach_l1 N post (pre ++ [false]) m out (by simp only [List.length_cons] at hm; omega) (by simp only [List.length_append, List.length_cons, List.length_nil]; omega)]
      simp only [enumB, e]
      rfl

theorem ref_Reach_ok {N : Nat} (hN : 2000000 ≤ N) {p : List Sl} {R : List Int} (hl : p.length ≤ 100000) (hk : (allKids p).length < 500000) (hR : R.length < 300000) : ∃ out, ref11_Reach N p R = some out ∧ IsReach p R out := by
  have hr0 : ∀ i, rdL (List.replicate p.length false) i false = false := fun i => by simp only [rdL, List.getD_eq_getElem?_getD, List.getElem?_replicate]; split <;> rfl
  obtain ⟨known, h1, h2, h3⟩ := bfs N p R N R (List.replicate p.length false) (by simp) (by rw [rem_start]; omega) (by rw [rem_start]; omega) (fun i _ _ h => by rw [hr0] at h; cases h) (fun k hk hu => .root hk hu) (fun k hk _ => .inr hk) (fun i _ _ h => by rw [hr0] at h; cases h)
  have h4 := reach_l1 N known [] N [] (by omega) (by simp; omega)
  refine ⟨enumB 0 known, ?_, asc_enumB _ _, fun i => ?_⟩
  · unfold ref11_Reach
    rw [gd_len p 1 hl (by omega) (by omega), gd_t (fits_p (by omega) (by omega))]
    simp only [List.nil_append, Int.toNat_natCast]
    rw [h1]
    simp only
    have h4' : ref11_Reach_l1 N N (0 : Int) known ([] : List Int) = _ := h4
    rw [h4']
    simp
  · rw [mem_enumB]
    constructor
    · rintro ⟨a, b, c⟩
      have b' : i < (p.length : Int) := by omega
      rw [Int.sub_zero] at c
      exact (h3 i a b').1 c
    · intro h
      have a := used_nn h.used
      have b := used_lt h.used
      exact ⟨a, by omega, by rw [Int.sub_zero]; exact (h3 i a b).2 h⟩

theorem reach_same {N : Nat} (hN : 2000000 ≤ N) {p : List Sl} {R : List Int} (hl : p.length ≤ 100000) (hk : (allKids p).length < 500000) (hks : ∀ s ∈ p, (kidsS s).length < 1000000) (hR : R.length < 300000) : ∃ out, pool_Reach N p R = some out ∧ ref11_Reach N p R = some out ∧ IsReach p R out := by
  obtain ⟨a, a1, a2⟩ := pool_Reach_ok hN hl hks (by omega : R.length < 1000000)
  obtain ⟨b, b1, b2⟩ := ref_Reach_ok hN hl hk hR
  exact ⟨a, a1, by rw [b1, b2.unique a2], a2⟩

end Ds

/- Sound of both packages: one and the same condition. -/
namespace Ds
open Go Go.Dv
set_option maxRecDepth 100000
set_option linter.unusedVariables false

def emptyB (s : Sl) : Bool := !s.1 && (!s.2.1 && (eqi s.2.2.1 0 && eqi (IntKind.wrap .i64 (IntKind.wrap .i64 (IntKind.wrap .i64 (IntKind.wrap .i64 ((List.length s.2.2.2.1 : Int) + (List.length s.2.2.2.2.1 : Int)) + (List.length s.2.2.2.2.2.1 : Int)) + (List.length s.2.2.2.2.2.2.1 : Int)) + (List.length s.2.2.2.2.2.2.2 : Int))) 0))

theorem empty_eq (N : Nat) (s : Sl) : pool_empty N s = some (emptyB s) := by
  unfold pool_empty emptyB
  cases s.1
  · cases s.2.1
    · cases eqi s.2.2.1 0 <;> simp
    · simp
  · simp
theorem zero_eq (N : Nat) (s : Sl) : ref11_zero N s = some (emptyB s) := by
  unfold ref11_zero emptyB
  cases s.1
  · cases s.2.1
    · cases eqi s.2.2.1 0 <;> simp
    · simp
  · simp
theorem empty_D0 : emptyB D0 = true := by decide +kernel

structure SoundP (p : List Sl) (R : List Int) : Prop where
  mem : ∀ k ∈ R, usedB p k = true
  kid : ∀ k ∈ allKids p, usedB p k = true
  emp : ∀ s ∈ p, s.1 = false → emptyB s = true
  refs : ∀ i, usedB p i = true → refsS (slA p i) = ((R.count i + (allKids p).count i : Nat) : Int)
  rch : ∀ i, usedB p i = true → Rch p R i
  acy : ∀ i, usedB p i = true → ¬ Rch p (kidsS (slA p i)) i

theorem Bal.sound {p : List Sl} {R : List Int} (h : Bal p R) : SoundP p R := by
  refine ⟨h.mem, h.kid, fun s hs he => by rw [h.z s hs he]; exact empty_D0, h.refs, ?_, ?_⟩
  · exact up_ind h (fun i => Rch p R i) (fun k hk => .root hk (h.mem k hk)) fun i k hu hr hk => .kid hr hk (h.kid k (kid_mem hu hk))
  · obtain ⟨r, hr⟩ := h.rank
    intro i hu hc
    have : ∀ j, Rch p (kidsS (slA p i)) j → r j < r i := by
      intro j hj
      induction hj with
      | root hk _ => exact hr i hu _ hk
      | kid h1 hk _ ih => exact Nat.lt_trans (hr _ h1.used _ hk) ih
    exact Nat.lt_irrefl _ (this i hc)

/-! ## counting -/
theorem c1_l (N : Nat) (p : List Sl) : ∀ (post pre : List Int) (m : Nat) (cs : List Int), post.length < m → (pre ++ post).length < 1000000 → cs.length = p.length → (∀ i : Int, 0 ≤ i → 0 ≤ rdL cs i 0 ∧ rdL cs i 0 + (post.length : Int) < 1000000000) →
    (post.all (usedB p) = true → ∃ cs', pool_Sound_c1_m_l0 N m (pre ++ post) ((pre ++ post).length : Int) (pre.length : Int) p cs = some (.inr ((), (p, ((), (cs', ()))))) ∧ cs'.length = p.length ∧ ∀ i : Int, 0 ≤ i → rdL cs' i 0 = rdL cs i 0 + (post.count i : Int)) ∧
    (post.all (usedB p) = false → ∃ x, pool_Sound_c1_m_l0 N m (pre ++ post) ((pre ++ post).length : Int) (pre.length : Int) p cs = some (.inl (false, x)))
  | [], _, 0, _, h, _, _, _ => absurd h (Nat.not_lt_zero _)
  | _ :: _, _, 0, _, h, _, _, _ => absurd h (Nat.not_lt_zero _)
  | [], pre, m + 1, cs, _, _, hl, _ => by
    refine ⟨fun _ => ⟨cs, ?_, hl, fun i _ => by simp⟩, fun h => by cases h⟩
    rw [pool_Sound_c1_m_l0_succ]
    simp only [pool_Sound_c1_m_l0_step, List.append_nil, Int.lt_irrefl, decide_false, cond_false]
  | k :: post, pre, m + 1, cs, hm, hb, hl, hc => by
    simp only [List.length_append, List.length_cons] at hb hm
    rw [pool_Sound_c1_m_l0_succ]
    simp only [pool_Sound_c1_m_l0_step, lt_mid, in_mid, rd_mid, cond_true, pool_used_eq, List.all_cons]
    rw [gd_t rfl]
    cases hu : usedB p k with
    | false =>
      refine ⟨fun h => (by cases h), fun _ => ⟨_, rfl⟩⟩
    | true =>
      have h0 := used_nn hu
      have h1 := used_lt hu
      have hck := hc k h0
      simp only [List.length_cons] at hck
      have hi : inB k cs.length = true := inB_t h0 (by rw [hl]; exact h1)
      simp only [Bool.not_true, cond_false, Bool.true_and]
      rw [gd_t hi, gd_t hi, wr_mid (q := k) (by omega), app_mid (pre := pre) (q := k) (post := post), w64 (by omega) (by omega)]
      have hset : ∀ i : Int, 0 ≤ i → rdL (setL cs k (rdL cs k 0 + 1)) i 0 = rdL cs i 0 + (if i = k then 1 else 0) := by
        intro i hi
        by_cases e : i = k
        · subst e; rw [rd_set_same h0 (by rw [hl]; exact h1), if_pos rfl]
        · rw [rd_set_other h0 hi e, if_neg e]; omega
      obtain ⟨a, b⟩ := c1_l N p post (pre ++ [k]) m (setL cs k (rdL cs k 0 + 1)) (by omega) (by simp only [List.length_append, List.length_cons, List.length_nil]; omega) (by simpa using hl) (fun i hi => by
        have := hc i hi
        simp only [List.length_cons] at this
        rw [hset i hi]
        split <;> omega)
      refine ⟨fun h => ?_, fun h => b h⟩
      obtain ⟨cs', e1, e2, e3⟩ := a h
      refine ⟨cs', e1, e2, fun i hi => ?_⟩
      rw [e3 i hi, hset i hi, List.count_cons]
      by_cases e : i = k
      · subst e; simp; omega
      · have e' : ¬ k = i := fun h => e h.symm
        simp [e, e']

theorem c1_ok {N : Nat} (hN : 2000000 ≤ N) {p : List Sl} {l cs : List Int} (hb : l.length < 1000000) (hl : cs.length = p.length) (hc : ∀ i : Int, 0 ≤ i → 0 ≤ rdL cs i 0 ∧ rdL cs i 0 + (l.length : Int) < 1000000000) :
    (l.all (usedB p) = true → ∃ cs', pool_Sound_c1_m N l p cs = some (true, (p, ((), (cs', ())))) ∧ cs'.length = p.length ∧ ∀ i : Int, 0 ≤ i → rdL cs' i 0 = rdL cs i 0 + (l.count i : Int)) ∧
    (l.all (usedB p) = false → ∃ x, pool_Sound_c1_m N l p cs = some (false, x)) := by
  obtain ⟨a, b⟩ := c1_l N p l [] N cs (by omega) (by simpa using hb) hl hc
  refine ⟨fun h => ?_, fun h => ?_⟩
  · obtain ⟨cs', e1, e2, e3⟩ := a h
    refine ⟨cs', ?_, e2, e3⟩
    unfold pool_Sound_c1_m
    have e1' : pool_Sound_c1_m_l0 N N l (List.length l : Int) (0 : Int) p cs = _ := e1
    rw [e1']
  · obtain ⟨x, e1⟩ := b h
    refine ⟨(x.1, ((), (x.2.2.1, ()))), ?_⟩
    unfold pool_Sound_c1_m
    have e1' : pool_Sound_c1_m_l0 N N l (List.length l : Int) (0 : Int) p cs = _ := e1
    rw [e1']

def goodS (p : List Sl) (s : Sl) : Bool := if s.1 = true then (kidsS s).all (usedB p) else emptyB s

theorem sound_l0 {N : Nat} (hN : 2000000 ≤ N) (p : List Sl) : ∀ (post pre : List Sl) (m : Nat) (cs : List Int), pre ++ post = p → post.length < m → p.length ≤ 100000 → (∀ s ∈ post, (kidsS s).length < 1000000) → cs.length = p.length →
    (∀ i : Int, 0 ≤ i → 0 ≤ rdL cs i 0 ∧ rdL cs i 0 + ((allKids post).length : Int) < 1000000000) →
    (post.all (goodS p) = true → ∃ cs', pool_Sound_l0 N m p (p.length : Int) (pre.length : Int) p cs = some (.inr (((), ()), (p, ((), (cs', ()))))) ∧ cs'.length = p.length ∧ ∀ i : Int, 0 ≤ i → rdL cs' i 0 = rdL cs i 0 + ((allKids post).count i : Int)) ∧
    (post.all (goodS p) = false → pool_Sound_l0 N m p (p.length : Int) (pre.length : Int) p cs = some (.inl (false, ())))
  | [], _, 0, _, _, h, _, _, _, _ => absurd h (Nat.not_lt_zero _)
  | _ :: _, _, 0, _, _, h, _, _, _, _ => absurd h (Nat.not_lt_zero _)
  | [], pre, m + 1, cs, e, _, _, _, hl, _ => by
    rw [List.append_nil] at e
    refine ⟨fun _ => ⟨cs, ?_, hl, fun i _ => by simp [allKids]⟩, fun h => by cases h⟩
    rw [pool_Sound_l0_succ]
    simp only [pool_Sound_l0_step, e, Int.lt_irrefl, decide_false, cond_false]
  | s :: post, pre, m + 1, cs, e, hm, hpl, hks, hl, hc => by
    have hlen : p.length = pre.length + (post.length + 1) := by rw [← e]; simp
    have hrd : rdL p (pre.length : Int) D_api_Slot = s := by rw [← e]; exact rd_mid
    have hin : inB (pre.length : Int) p.length = true := inB_t (by omega) (by omega)
    have hlt : decide ((pre.length : Int) < (p.length : Int)) = true := by simp; omega
    have hwr : IntKind.wrap .i64 ((pre.length : Int) + (1 : Int)) = ((pre ++ [s]).length : Int) := wr_mid (q := s) (by omega)
    have e2 : (pre ++ [s]) ++ post = p := by rw [← e]; simp
    simp only [List.length_cons] at hm
    rw [pool_Sound_l0_succ]
    simp only [pool_Sound_l0_step, hlt, hrd, cond_true, hwr, empty_eq, List.all_cons]
    rw [gd_t hin]
    have hak : allKids (s :: post) = kidsU s ++ allKids post := by simp [allKids]
    rw [hak] at hc ⊢
    cases hu : s.1 with
    | true =>
      have hku : kidsU s = kidsS s := by rw [kidsU, if_pos hu]
      rw [hku] at hc ⊢
      have hg : goodS p s = (kidsS s).all (usedB p) := by rw [goodS, if_pos hu]
      rw [hg]
      have hks1 := hks s (by simp)
      obtain ⟨a, b⟩ := c1_ok hN (p := p) (l := kidsS s) (cs := cs) hks1 hl (fun i hi => by have := hc i hi; simp only [List.length_append] at this; omega)
      have hkk : (((((s.2).2).2).2).2).1 = kidsS s := rfl
      simp only [cond_true, hkk]
      cases hall : (kidsS s).all (usedB p) with
      | false =>
        obtain ⟨x, e1⟩ := b hall
        rw [e1]
        exact ⟨fun h => (by cases h), fun _ => rfl⟩
      | true =>
        obtain ⟨cs1, e1, e3, e4⟩ := a hall
        rw [e1]
        simp only [Bool.not_true, cond_false, Bool.true_and]
        obtain ⟨a2, b2⟩ := sound_l0 hN p post (pre ++ [s]) m cs1 e2 (by omega) hpl (fun s hs => hks s (by simp [hs])) e3 (fun i hi => by
          have := hc i hi
          have hle := List.count_le_length (a := i) (l := kidsS s)
          simp only [List.length_append] at this
          rw [e4 i hi]
          omega)
        refine ⟨fun h => ?_, b2⟩
        obtain ⟨cs', f1, f2, f3⟩ := a2 h
        refine ⟨cs', f1, f2, fun i hi => ?_⟩
        rw [f3 i hi, e4 i hi, List.count_append]
        omega
    | false =>
      have hku : kidsU s = [] := by rw [kidsU, if_neg (by simp [hu])]
      rw [hku] at hc ⊢
      have hg : goodS p s = emptyB s := by rw [goodS, if_neg (by simp [hu])]
      rw [hg]
      simp only [Bool.not_false, cond_true, cond_false, List.nil_append]
      cases he : emptyB s with
      | false => exact ⟨fun h => (by cases h), fun _ => rfl⟩
      | true =>
        simp only [Bool.not_true, cond_false, Bool.true_and]
        exact sound_l0 hN p post (pre ++ [s]) m cs e2 (by omega) hpl (fun s hs => hks s (by simp [hs])) hl (by simpa using hc)

theorem sound_l1 (N : Nat) (p : List Sl) (cs : List Int) (hl : cs.length = p.length) (hp : p.length ≤ 100000) : ∀ (k m i : Nat), i + k = p.length → k < m →
    (((∀ j : Int, (i : Int) ≤ j → j < (p.length : Int) → refsS (slA p j) = rdL cs j 0) → pool_Sound_l1 N m p (p.length : Int) (i : Int) cs = some (.inr ((), ()))) ∧
     ((¬ ∀ j : Int, (i : Int) ≤ j → j < (p.length : Int) → refsS (slA p j) = rdL cs j 0) → pool_Sound_l1 N m p (p.length : Int) (i : Int) cs = some (.inl (false, ()))))
  | _, 0, _, _, h => absurd h (Nat.not_lt_zero _)
  | 0, m + 1, i, e, _ => by
    refine ⟨fun _ => ?_, fun h => absurd (fun j h1 h2 => by omega) h⟩
    rw [pool_Sound_l1_succ]
    simp only [pool_Sound_l1_step]
    rw [bif_f (by simp; omega)]
  | k + 1, m + 1, i, e, hm => by
    rw [pool_Sound_l1_succ]
    simp only [pool_Sound_l1_step]
    rw [bif_t (by simp; omega), gd_t (inB_t (by omega) (by omega)), gd_t (inB_t (by omega) (by omega)), w64 (by omega) (by omega)]
    have hx : (((rdL p (i : Int) D_api_Slot).2).2).1 = refsS (slA p (i : Int)) := rfl
    rw [hx]
    have ih := sound_l1 N p cs hl hp k m (i + 1) (by omega) (by omega)
    have ei : ((i : Int) + 1) = ((i + 1 : Nat) : Int) := by omega
    rw [ei]
    by_cases h : refsS (slA p (i : Int)) = rdL cs (i : Int) 0
    · rw [bif_f (by rw [eqi_iff.2 h]; rfl)]
      have hiff : (∀ j : Int, (i : Int) ≤ j → j < (p.length : Int) → refsS (slA p j) = rdL cs j 0) ↔ (∀ j : Int, ((i + 1 : Nat) : Int) ≤ j → j < (p.length : Int) → refsS (slA p j) = rdL cs j 0) := by
        constructor
        · intro g j h1 h2; exact g j (by omega) h2
        · intro g j h1 h2
          by_cases e : j = (i : Int)
          · rw [e]; exact h
          · exact g j (by omega) h2
      exact ⟨fun g => ih.1 (hiff.1 g), fun g => ih.2 (fun g' => g (hiff.2 g'))⟩
    · rw [bif_t (by rw [eqi_ne h]; rfl)]
      exact ⟨fun g => absurd (g i (by omega) (by omega)) h, fun _ => rfl⟩

def liveN (p : List Sl) : Nat := p.countP (fun s => s.1)

theorem live_l (N : Nat) : ∀ (post pre : List Sl) (m : Nat) (c : Int), post.length < m → (pre ++ post).length < 1000000 → 0 ≤ c → c + (post.length : Int) < 1000000000 →
    pool_Live_l0 N m c (pre ++ post) ((pre ++ post).length : Int) (pre.length : Int) = some (c + (liveN post : Int), ())
  | [], _, 0, _, h, _, _, _ => absurd h (Nat.not_lt_zero _)
  | _ :: _, _, 0, _, h, _, _, _ => absurd h (Nat.not_lt_zero _)
  | [], pre, m + 1, c, _, _, _, _ => by
    rw [pool_Live_l0_succ]
    simp only [pool_Live_l0_step, List.append_nil, Int.lt_irrefl, decide_false, cond_false]
    simp [liveN]
  | s :: post, pre, m + 1, c, hm, hb, h0, h1 => by
    simp only [List.length_append, List.length_cons] at hb hm h1
    rw [pool_Live_l0_succ]
    simp only [pool_Live_l0_step, lt_mid, in_mid, rd_mid, cond_true]
    rw [gd_t rfl, wr_mid (q := s) (by omega), app_mid (pre := pre) (q := s) (post := post)]
    cases hu : s.1 with
    | true =>
      rw [w64 (by omega) (by omega)]
      simp only [cond_true]
      rw [live_l N post (pre ++ [s]) m (c + 1) (by omega) (by simp only [List.length_append, List.length_cons, List.length_nil]; omega) (by omega) (by omega)]
      simp [liveN, hu]; omega
    | false =>
      simp only [cond_false]
      rw [live_l N post (pre ++ [s]) m c (by omega) (by simp only [List.length_append, List.length_cons, List.length_nil]; omega) h0 (by omega)]
      simp [liveN, hu]

theorem pool_Live_eq {N : Nat} (hN : 2000000 ≤ N) {p : List Sl} (hp : p.length ≤ 100000) : pool_Live N p = some (liveN p : Int) := by
  unfold pool_Live
  have h := live_l N p [] N 0 (by omega) (by simpa using (by omega : p.length < 1000000)) (by omega) (by omega)
  have h' : pool_Live_l0 N N (0 : Int) p (List.length p : Int) (0 : Int) = _ := h
  rw [h']
  simp

theorem rlive_l (N : Nat) : ∀ (post pre : List Sl) (m : Nat) (c : Int), post.length < m → (pre ++ post).length < 1000000 → 0 ≤ c → c + (post.length : Int) < 1000000000 →
    ref11_Live_l0 N m c (pre.length : Int) (pre ++ post) = some (c + (liveN post : Int), ())
  | [], _, 0, _, h, _, _, _ => absurd h (Nat.not_lt_zero _)
  | _ :: _, _, 0, _, h, _, _, _ => absurd h (Nat.not_lt_zero _)
  | [], pre, m + 1, c, _, _, _, _ => by
    rw [ref11_Live_l0_succ]
    simp only [ref11_Live_l0_step, List.append_nil, Int.lt_irrefl, decide_false, cond_false]
    simp [liveN]
  | s :: post, pre, m + 1, c, hm, hb, h0, h1 => by
    simp only [List.length_append, List.length_cons] at hb hm h1
    rw [ref11_Live_l0_succ]
    simp only [ref11_Live_l0_step, lt_mid, in_mid, rd_mid, cond_true]
    rw [gd_t rfl, wr_mid (q := s) (by omega), app_mid (pre := pre) (q := s) (post := post)]
    cases hu : s.1 with
    | true =>
      rw [w64 (by omega) (by omega)]
      simp only [cond_true]
      rw [rlive_l N post (pre ++ [s]) m (c + 1) (by omega) (by simp only [List.length_append, List.length_cons, List.length_nil]; omega) (by omega) (by omega)]
      simp [liveN, hu]; omega
    | false =>
      simp only [cond_false]
      rw [rlive_l N post (pre ++ [s]) m c (by omega) (by simp only [List.length_append, List.length_cons, List.length_nil]; omega) h0 (by omega)]
      simp [liveN, hu]

theorem ref_Live_eq {N : Nat} (hN : 2000000 ≤ N) {p : List Sl} (hp : p.length ≤ 100000) : ref11_Live N p = some (liveN p : Int) := by
  unfold ref11_Live
  have h := rlive_l N p [] N 0 (by omega) (by simpa using (by omega : p.length < 1000000)) (by omega) (by omega)
  have h' : ref11_Live_l0 N N (0 : Int) (0 : Int) p = _ := h
  rw [h']
  simp

/-! ## the ids that are used -/
def uids (p : List Sl) : List Int := enumB 0 (p.map fun s => s.1)
theorem mem_uids {p : List Sl} {i : Int} : i ∈ uids p ↔ usedB p i = true := by
  unfold uids
  rw [mem_enumB, usedB_iff, Int.sub_zero]
  simp only [List.length_map, Int.zero_add]
  constructor
  · rintro ⟨a, b, c⟩
    have hlt : i.toNat < p.length := by omega
    refine ⟨a, b, ?_⟩
    simp [rdL, hlt] at c
    rw [slA_get hlt]; exact c
  · rintro ⟨a, b, c⟩
    have hlt : i.toNat < p.length := by omega
    refine ⟨a, b, ?_⟩
    rw [slA_get hlt] at c
    simp [rdL, hlt]; exact c
theorem len_uids (p : List Sl) : (uids p).length = liveN p := by
  unfold uids liveN
  rw [len_enumB, List.countP_map]; rfl
theorem nodup_uids (p : List Sl) : (uids p).Nodup := (asc_enumB _ _).imp (fun h => by omega)

theorem nodup_le : ∀ {a b : List Int}, a.Nodup → (∀ x ∈ a, x ∈ b) → a.length ≤ b.length
  | [], _, _, _ => Nat.zero_le _
  | x :: a, b, h, g => by
    obtain ⟨h1, h2⟩ := List.nodup_cons.1 h
    have hx : x ∈ b := g x (by simp)
    have := nodup_le (a := a) (b := b.erase x) h2 fun y hy => (List.mem_erase_of_ne (fun e : y = x => h1 (by rw [← e]; exact hy))).2 (g y (by simp [hy]))
    rw [List.length_erase_of_mem hx] at this
    have : 0 < b.length := List.length_pos_of_mem hx
    simp only [List.length_cons]; omega

theorem nodup_full {a b : List Int} (ha : a.Nodup) (hab : ∀ x ∈ a, x ∈ b) (hl : a.length = b.length) : ∀ x ∈ b, x ∈ a := by
  intro x hx
  by_cases h : x ∈ a
  · exact h
  · have := nodup_le (a := x :: a) (b := b) (List.nodup_cons.2 ⟨h, ha⟩) (fun y hy => by
      rcases List.mem_cons.1 hy with rfl | hy
      · exact hx
      · exact hab y hy)
    simp only [List.length_cons] at this; omega

theorem all_used_iff {p : List Sl} {l : List Int} : l.all (usedB p) = true ↔ ∀ k ∈ l, usedB p k = true := by simp

theorem good_iff {p : List Sl} : p.all (goodS p) = true ↔ (∀ k ∈ allKids p, usedB p k = true) ∧ ∀ s ∈ p, s.1 = false → emptyB s = true := by
  rw [List.all_eq_true]
  constructor
  · intro h
    refine ⟨fun k hk => ?_, fun s hs he => ?_⟩
    · obtain ⟨s, hs, hk⟩ := List.mem_flatMap.1 hk
      unfold kidsU at hk
      split at hk
      · rename_i hu
        have := h s hs
        rw [goodS, if_pos hu] at this
        exact all_used_iff.1 this k hk
      · cases hk
    · have := h s hs
      rw [goodS, if_neg (by simp [he])] at this
      exact this
  · rintro ⟨h1, h2⟩ s hs
    unfold goodS
    split
    · rename_i hu
      exact all_used_iff.2 fun k hk => h1 k (List.mem_flatMap.2 ⟨s, hs, by rw [kidsU, if_pos hu]; exact hk⟩)
    · rename_i hu
      exact h2 s hs (by simpa using hu)

theorem emptyB_refs {s : Sl} (h : emptyB s = true) : refsS s = 0 := by
  unfold emptyB at h
  simp only [Bool.and_eq_true, eqi_iff] at h
  exact h.2.2.1

theorem pool_Sound_ok {N : Nat} (hN : 2000000 ≤ N) {p : List Sl} {R : List Int} (hl : p.length ≤ 100000) (hks : ∀ s ∈ p, (kidsS s).length < 1000000) (hk : (allKids p).length < 500000) (hR : R.length < 300000) :
    ∃ b, pool_Sound N p R = some b ∧ (b = true ↔ SoundP p R) := by
  unfold pool_Sound
  rw [gd_len p 8 hl (by omega) (by omega)]
  have z0 : ∀ i : Int, rdL (List.replicate p.length (0 : Int)) i 0 = 0 := fun i => by simp only [rdL, List.getD_eq_getElem?_getD, List.getElem?_replicate]; split <;> rfl
  simp only [Int.toNat_natCast]
  obtain ⟨a, b⟩ := c1_ok hN (p := p) (l := R) (cs := List.replicate p.length (0 : Int)) (by omega) (by simp) (fun i _ => by rw [z0]; omega)
  cases hall : R.all (usedB p) with
  | false =>
    obtain ⟨x, e⟩ := b hall
    rw [e]
    refine ⟨false, rfl, ⟨fun h => (by cases h), fun h => ?_⟩⟩
    rw [all_used_iff.2 h.mem] at hall; cases hall
  | true =>
    obtain ⟨cs, e, e1, e2⟩ := a hall
    rw [e]
    simp only [Bool.not_true, cond_false]
    obtain ⟨s, hs, h1, h2, h3, h4, h5⟩ := walk_ok (p := p) (n := N) (by omega) R
    obtain ⟨s0, hs0⟩ : ∃ s0 : DS, s0 = ⟨List.replicate p.length 0, true, []⟩ := ⟨_, rfl⟩
    have c0 : ∀ i, s0.c i = 0 := fun i => by rw [hs0]; exact z0 i
    have hw : s0.white ≤ p.length := by rw [hs0]; exact Nat.le_trans List.count_le_length (by simp)
    have hr := roots_a N p p.length (by omega) hks (by omega) R [] N s0 (by omega) (by simpa using (by omega : R.length < 1000000)) (fun i => .inl (c0 i)) (by rw [hs0]; simp) (by omega) (by rw [hs0] at hw ⊢; simpa using hw)
    have hv : pool_visit_m__pool_Sound_c2 N p R (0 : Int) = some (s.fine, ((s.out.length : Int), ())) := by
      unfold pool_visit_m__pool_Sound_c2
      rw [gd_len p 8 hl (by omega) (by omega)]
      simp only [Int.toNat_natCast]
      have hr' : pool_visit_m__pool_Sound_c2_l0 N N R (List.length R : Int) (0 : Int) true p (List.replicate p.length (0 : Int)) (0 : Int) = some ((), (s.fine, ((s.out.length : Int), ()))) := by
        rw [← hs, ← hs0]
        rw [hs0] at hr ⊢
        exact hr
      rw [hr']
    rw [hv]
    simp only
    cases hf : s.fine with
    | false =>
      refine ⟨false, rfl, ⟨fun h => (by cases h), fun h => ?_⟩⟩
      obtain ⟨x, x1, x2⟩ := h4 hf
      exact absurd x2 (h.acy x x1.used)
    | true =>
      simp only [Bool.not_true, cond_false, pool_Live_eq hN hl]
      by_cases hcnt : s.out.length = liveN p
      · rw [bif_f (by rw [eqi_iff.2 (by omega)]; rfl)]
        have hfull : ∀ i, usedB p i = true → Rch p R i := fun i hi => (h2 i).1 (nodup_full h1 (fun x hx => mem_uids.2 ((h2 x).1 hx).used) (by rw [len_uids]; exact hcnt) i (mem_uids.2 hi))
        obtain ⟨a2, b2⟩ := sound_l0 hN p p [] N cs rfl (by omega) hl hks e1 (fun i hi => by
          have := List.count_le_length (a := i) (l := R)
          rw [e2 i hi, z0]; omega)
        cases hg : p.all (goodS p) with
        | false =>
          have b2' : pool_Sound_l0 N N p (List.length p : Int) (0 : Int) p cs = _ := b2 hg
          rw [b2']
          refine ⟨false, rfl, ⟨fun h => (by cases h), fun h => ?_⟩⟩
          rw [good_iff.2 ⟨h.kid, h.emp⟩] at hg; cases hg
        | true =>
          obtain ⟨cs', f1, f2, f3⟩ := a2 hg
          have f1' : pool_Sound_l0 N N p (List.length p : Int) (0 : Int) p cs = _ := f1
          rw [f1']
          simp only
          obtain ⟨g1, g2⟩ := good_iff.1 hg
          have hcs : ∀ j : Int, 0 ≤ j → rdL cs' j 0 = ((R.count j + (allKids p).count j : Nat) : Int) := fun j hj => by rw [f3 j hj, e2 j hj, z0]; omega
          obtain ⟨l1, l2⟩ := sound_l1 N p cs' f2 hl p.length N 0 (by omega) (by omega)
          by_cases hrefs : ∀ j : Int, ((0 : Nat) : Int) ≤ j → j < (p.length : Int) → refsS (slA p j) = rdL cs' j 0
          · have l1' : pool_Sound_l1 N N p (List.length p : Int) (0 : Int) cs' = _ := l1 hrefs
            rw [l1']
            refine ⟨true, rfl, ⟨fun _ => ⟨all_used_iff.1 hall, g1, g2, fun i hi => ?_, hfull, fun i hi => h5 hf i (hfull i hi)⟩, fun _ => rfl⟩⟩
            rw [hrefs i (used_nn hi) (used_lt hi), hcs i (used_nn hi)]
          · have l2' : pool_Sound_l1 N N p (List.length p : Int) (0 : Int) cs' = _ := l2 hrefs
            rw [l2']
            refine ⟨false, rfl, ⟨fun h => (by cases h), fun h => ?_⟩⟩
            refine absurd (fun j hj0 hj1 => ?_) hrefs
            have hj0 : (0 : Int) ≤ j := hj0
            rw [hcs j hj0]
            by_cases hu : usedB p j = true
            · exact h.refs j hu
            · have hz : R.count j = 0 ∧ (allKids p).count j = 0 := by
                refine ⟨List.count_eq_zero.2 fun hm => hu (h.mem j hm), List.count_eq_zero.2 fun hm => hu (h.kid j hm)⟩
              rw [hz.1, hz.2]
              refine emptyB_refs (h.emp _ (rd_mem hj0 hj1) ?_)
              cases hx : (slA p j).1 with
              | false => rfl
              | true => exact absurd (usedB_iff.2 ⟨hj0, hj1, hx⟩) hu
      · rw [bif_t (by rw [eqi_ne (by omega)]; rfl)]
        refine ⟨false, rfl, ⟨fun h => (by cases h), fun h => ?_⟩⟩
        refine absurd ?_ hcnt
        have hle1 := nodup_le h1 (b := uids p) (fun x hx => mem_uids.2 ((h2 x).1 hx).used)
        have hle2 := nodup_le (nodup_uids p) (b := s.out) (fun x hx => (h2 x).2 (h.rch x (mem_uids.1 hx)))
        rw [len_uids] at hle1 hle2; omega

end Ds
