/- The plain laws of MsgOutside, MsgReads, MsgFree, MsgMoves, MsgTwice and MsgMatchesReference. -/
import Derived.Test.YtknfflpgemghmaaGreatDsKeys
set_option linter.all false
namespace Ds
open Go Go.Dv
set_option maxRecDepth 100000
set_option linter.unusedVariables false

/-! ## meeting lists -/
theorem c11_ok (a : Sp) (lo hi : B) : msg_meet_c1_c1 NN a lo hi = some (!(emptyB (meetB (lo, hi) a))) := by
  simp only [msg_meet_c1_c1, Meet_ok, empty_eq]

theorem inner_l0 (lo hi : B) : ∀ (post pre : List Sp) (n : Nat), post.length < n → (pre ++ post).length < 100000 → ∃ r, slices_IndexFunc_s_api_Span_api_Span__msg_meet_c1_c1_l0 NN n (pre ++ post) lo hi ((pre ++ post).length : Int) (pre.length : Int) = some r ∧
    ((post.any fun b => !(emptyB (meetB (lo, hi) b))) = true → ∃ j : Int, 0 ≤ j ∧ r = .inl (j, ())) ∧ ((post.any fun b => !(emptyB (meetB (lo, hi) b))) = false → r = .inr ((), ()))
  | _, _, 0, h, _ => absurd h (Nat.not_lt_zero _)
  | [], pre, n + 1, _, _ => by
    refine ⟨.inr ((), ()), ?_, fun h => by simp at h, fun _ => rfl⟩
    rw [slices_IndexFunc_s_api_Span_api_Span__msg_meet_c1_c1_l0_succ]
    simp only [slices_IndexFunc_s_api_Span_api_Span__msg_meet_c1_c1_l0_step, List.append_nil, Int.lt_irrefl, decide_false, cond_false]
  | q :: post, pre, n + 1, hn, hl => by
    simp only [List.length_cons] at hn
    have hb : pre.length < 9223372036854775807 := by simp at hl; omega
    rw [slices_IndexFunc_s_api_Span_api_Span__msg_meet_c1_c1_l0_succ]
    simp only [slices_IndexFunc_s_api_Span_api_Span__msg_meet_c1_c1_l0_step, lt_mid, in_mid, cond_true, rd_mid, c11_ok]
    rw [gd_t rfl]
    cases e : emptyB (meetB (lo, hi) q)
    · exact ⟨.inl ((pre.length : Int), ()), rfl, fun _ => ⟨_, by omega, rfl⟩, fun h => by simp [e] at h⟩
    · obtain ⟨r, h1, h2, h3⟩ := inner_l0 lo hi post (pre ++ [q]) n (by omega) (by simpa using hl)
      refine ⟨r, ?_, fun h => h2 (by simpa [e] using h), fun h => h3 (by simpa [e] using h)⟩
      simp only [Bool.not_true, cond_false]
      rw [wr_mid (q := q) hb, app_mid (pre := pre) (q := q) (post := post)]
      exact h1

theorem c1_in (a : Sp) {m : List Sp} (hm : m.length < 1000) : msg_meet_c1 NN a m = some (m.any fun b => !(emptyB (meetB a b))) := by
  obtain ⟨r, h1, h2, h3⟩ := inner_l0 a.1 a.2 m [] NN (by simp only [NN]; omega) (by simp; omega)
  have hz : (([] : List Sp).length : Int) = 0 := rfl
  simp only [List.nil_append, hz] at h1
  simp only [msg_meet_c1, slices_ContainsFunc_s_api_Span_api_Span__msg_meet_c1_c1, slices_IndexFunc_s_api_Span_api_Span__msg_meet_c1_c1, h1]
  cases e : (m.any fun b => !(emptyB (meetB (a.1, a.2) b)))
  · rw [h3 e]; rfl
  · obtain ⟨j, j0, rfl⟩ := h2 e
    simp only [decide_eq_true j0]

theorem outer_l0 {m : List Sp} (hm : m.length < 1000) : ∀ (post pre : List Sp) (n : Nat), post.length < n → (pre ++ post).length < 100000 → ∃ r, slices_IndexFunc_s_api_Span_api_Span__msg_meet_c1_l0 NN n (pre ++ post) m ((pre ++ post).length : Int) (pre.length : Int) = some r ∧
    (touchB post m = true → ∃ j : Int, 0 ≤ j ∧ r = .inl (j, ())) ∧ (touchB post m = false → r = .inr ((), ()))
  | _, _, 0, h, _ => absurd h (Nat.not_lt_zero _)
  | [], pre, n + 1, _, _ => by
    refine ⟨.inr ((), ()), ?_, fun h => by simp [touchB] at h, fun _ => rfl⟩
    rw [slices_IndexFunc_s_api_Span_api_Span__msg_meet_c1_l0_succ]
    simp only [slices_IndexFunc_s_api_Span_api_Span__msg_meet_c1_l0_step, List.append_nil, Int.lt_irrefl, decide_false, cond_false]
  | q :: post, pre, n + 1, hn, hl => by
    simp only [List.length_cons] at hn
    have hb : pre.length < 9223372036854775807 := by simp at hl; omega
    have et : touchB (q :: post) m = ((m.any fun b => !(emptyB (meetB q b))) || touchB post m) := by simp [touchB]
    rw [slices_IndexFunc_s_api_Span_api_Span__msg_meet_c1_l0_succ]
    simp only [slices_IndexFunc_s_api_Span_api_Span__msg_meet_c1_l0_step, lt_mid, in_mid, cond_true, rd_mid, c1_in q hm]
    rw [gd_t rfl, et]
    cases e : (m.any fun b => !(emptyB (meetB q b)))
    · obtain ⟨r, h1, h2, h3⟩ := outer_l0 hm post (pre ++ [q]) n (by omega) (by simpa using hl)
      refine ⟨r, ?_, fun h => h2 (by simpa using h), fun h => h3 (by simpa using h)⟩
      simp only [cond_false]
      rw [wr_mid (q := q) hb, app_mid (pre := pre) (q := q) (post := post)]
      exact h1
    · exact ⟨.inl ((pre.length : Int), ()), rfl, fun _ => ⟨_, by omega, rfl⟩, fun h => by simp at h⟩

theorem meet_ok {l m : List Sp} (hl : l.length < 1000) (hm : m.length < 1000) : msg_meet NN l m = some (touchB l m) := by
  obtain ⟨r, h1, h2, h3⟩ := outer_l0 hm l [] NN (by simp only [NN]; omega) (by simp; omega)
  have hz : (([] : List Sp).length : Int) = 0 := rfl
  simp only [List.nil_append, hz] at h1
  simp only [msg_meet, slices_ContainsFunc_s_api_Span_api_Span__msg_meet_c1, slices_IndexFunc_s_api_Span_api_Span__msg_meet_c1, h1]
  cases e : touchB l m
  · rw [h3 e]; rfl
  · obtain ⟨j, j0, rfl⟩ := h2 e
    simp only [decide_eq_true j0]

theorem touch_l1 {l m : List Sp} {i : Int} {q : Sp} (hi : inB i l.length = true) (hq : rdL l i D_api_Span = q) (hl : l.length < 100000) : ∀ (post pre : List Sp) (n : Nat), m = pre ++ post → post.length < n → m.length < 100000 →
    ref05_Touch_l1 NN n l m i (pre.length : Int) = some (bif post.any fun b => !(emptyB (meetB q b)) then .inl (true, ()) else .inr ((l, (m, i)), ()))
  | _, _, 0, _, h, _ => absurd h (Nat.not_lt_zero _)
  | [], pre, n + 1, hm, _, _ => by
    have e : decide ((pre.length : Int) < (m.length : Int)) = false := by rw [hm]; simp
    rw [ref05_Touch_l1_succ]
    simp only [ref05_Touch_l1_step, e, cond_false, List.any_nil]
  | r :: post, pre, n + 1, hm, hn, hl' => by
    simp only [List.length_cons] at hn
    have hb : pre.length < 9223372036854775807 := by rw [hm] at hl'; simp at hl'; omega
    have ih := touch_l1 (m := m) hi hq hl post (pre ++ [r]) n (by rw [hm]; simp) (by omega) hl'
    rw [ref05_Touch_l1_succ]
    simp only [ref05_Touch_l1_step]
    have e1 : decide ((pre.length : Int) < (m.length : Int)) = true := by rw [hm]; exact lt_mid
    have e2 : inB (pre.length : Int) m.length = true := by rw [hm]; exact in_mid
    have e3 : rdL m (pre.length : Int) D_api_Span = r := by rw [hm]; exact rd_mid
    simp only [e1, e2, e3, hq, cond_true, rMeet_ok, refEmpty_eq]
    rw [gd_t hi, gd_t rfl, wr_mid (q := r) hb, ih]
    cases e : emptyB (meetB q r) <;> simp [e]

theorem touch_l0 {m : List Sp} (hm : m.length < 1000) : ∀ (post pre : List Sp) (n : Nat), post.length < n → (pre ++ post).length < 100000 →
    ref05_Touch_l0 NN n (pre ++ post) m (pre.length : Int) = some (bif touchB post m then .inl (true, ()) else .inr ((), ()))
  | _, _, 0, h, _ => absurd h (Nat.not_lt_zero _)
  | [], pre, n + 1, _, _ => by
    rw [ref05_Touch_l0_succ]
    simp only [ref05_Touch_l0_step, List.append_nil, Int.lt_irrefl, decide_false, cond_false]
    rfl
  | q :: post, pre, n + 1, hn, hl => by
    simp only [List.length_cons] at hn
    have hb : pre.length < 9223372036854775807 := by simp at hl; omega
    have et : touchB (q :: post) m = ((m.any fun b => !(emptyB (meetB q b))) || touchB post m) := by simp [touchB]
    have h1 := touch_l1 (l := pre ++ q :: post) (m := m) (i := (pre.length : Int)) (q := q) in_mid rd_mid (by omega) m [] NN rfl (by simp only [NN]; omega) (by omega)
    have hz : (([] : List Sp).length : Int) = 0 := rfl
    rw [hz] at h1
    rw [ref05_Touch_l0_succ]
    simp only [ref05_Touch_l0_step, lt_mid, cond_true, h1, et]
    cases e : (m.any fun b => !(emptyB (meetB q b)))
    · simp only [cond_false, Bool.false_or]
      rw [wr_mid (q := q) hb, app_mid (pre := pre) (q := q) (post := post)]
      exact touch_l0 hm post (pre ++ [q]) n (by omega) (by simpa using hl)
    · rfl

theorem Touch_ok {l m : List Sp} (hl : l.length < 1000) (hm : m.length < 1000) : ref05_Touch NN l m = some (touchB l m) := by
  have h := touch_l0 hm l [] NN (by simp only [NN]; omega) (by simp; omega)
  have hz : (([] : List Sp).length : Int) = 0 := rfl
  simp only [List.nil_append, hz] at h
  simp only [ref05_Touch, h]
  cases touchB l m <;> rfl

theorem Free_ok {m n : Mg} (hm : Good m) (hn : Good n) : msg_Free NN m n = some (freeB m n) ∧ ref05_Free NN m n = some (freeB m n) := by
  obtain ⟨a1, a2⟩ := Writes_ok hm
  obtain ⟨b1, b2⟩ := Writes_ok hn
  obtain ⟨c1, c2⟩ := Reads_ok hm
  obtain ⟨d1, d2⟩ := Reads_ok hn
  obtain ⟨l1, l2, _⟩ := wr_len hm
  obtain ⟨k1, k2, _⟩ := wr_len hn
  have m1 := meet_ok (l := wr m) (m := wr n) (by omega) (by omega)
  have m2 := meet_ok (l := wr m) (m := rds n) (by omega) (by omega)
  have m3 := meet_ok (l := rds m) (m := wr n) (by omega) (by omega)
  have t1 := Touch_ok (l := wr m) (m := wr n) (by omega) (by omega)
  have t2 := Touch_ok (l := wr m) (m := rds n) (by omega) (by omega)
  have t3 := Touch_ok (l := wr n) (m := rds m) (by omega) (by omega)
  refine ⟨?_, ?_⟩
  · simp only [msg_Free, a1, b1, c1, d1, m1, m2, m3, freeB, touch_comm (rds m) (wr n)]
    cases touchB (wr m) (wr n) <;> cases touchB (wr m) (rds n) <;> cases touchB (wr n) (rds m) <;> rfl
  · simp only [ref05_Free, a2, b2, c2, d2, t1, t2, t3, freeB]
    cases touchB (wr m) (wr n) <;> cases touchB (wr m) (rds n) <;> cases touchB (wr n) (rds m) <;> rfl

/-! ## the laws -/
theorem sanity5 : law05_sanity NN = some true := by decide +kernel

section laws
variable {t : List Pr} (h : Ok 12 7 t)
include h
theorem ap1 {m : Mg} (hm : Good m) : msg_Apply NN t m = some (app m t) ∧ Ok 25 23 (app m t) := good_ap h (by simp only [NN]; omega) (by omega) (by omega) hm
theorem ap2 {m n : Mg} (hm : Good m) (hn : Good n) : msg_All NN t [m, n] = some (app n (app m t)) ∧ Ok 51 39 (app n (app m t)) := by
  obtain ⟨a1, a2⟩ := ap1 h hm
  obtain ⟨b1, b2⟩ := good_ap a2 (by simp only [NN]; omega) (by omega) (by omega) hn
  exact ⟨All_ok (ms := [m, n]) (by simp [NN]) ⟨a1, b1, trivial⟩, b2⟩
end laws

theorem small {n L : Nat} {t : List Pr} (h : Ok n L t) (hn : n < 100000) : t.length < NN ∧ Big t.length := by
  have := h.len
  exact ⟨by simp only [NN]; omega, by simp only [Big]; omega⟩
theorem smallS {l : List Sp} (h : l.length ≤ 100) : l.length < NN ∧ Big l.length := ⟨by simp only [NN]; omega, by simp only [Big]; omega⟩
theorem wo_ok {n L : Nat} {t : List Pr} (h : Ok n L t) (hn : n < 100000) {l : List Sp} (hl : l.length ≤ 100) : ref05_Without NN t l = some (t.filter fun p => !(inS l p.1)) :=
  Without_ok NN t l (small h hn).1 (smallS hl).1 (small h hn).2 (smallS hl).2
theorem wi_ok {n L : Nat} {t : List Pr} (h : Ok n L t) (hn : n < 100000) {l : List Sp} (hl : l.length ≤ 100) : ref05_Within NN t l = some (t.filter fun p => inS l p.1) :=
  Within_ok NN t l (small h hn).1 (smallS hl).1 (small h hn).2 (smallS hl).2

theorem plainOutside (xs : List V_a3_uint8) (y : V_ref05_Raw) (hx : okT (.list T_a3_uint8) xs) (hy : okT T_ref05_Raw y) : law05_MsgOutside NN xs y = some true := by
  obtain ⟨t, h1, h2⟩ := table_ok hx
  obtain ⟨m, g1, g2⟩ := made_ok hy
  obtain ⟨a1, a2⟩ := ap1 h2 g2
  obtain ⟨l1, l2, l3⟩ := wr_len g2
  have e : (app m t).filter (fun p => !(inS (wr m) p.1)) = t.filter (fun p => !(inS (wr m) p.1)) := by
    refine Srt.ext (a2.srt.filter _) (h2.srt.filter _) fun k => ?_
    rw [fnd_filter (fun x => !(inS (wr m) x)), fnd_filter (fun x => !(inS (wr m) x))]
    cases q : inS (wr m) k
    · simp only [Bool.not_false, cond_true]; exact app_out g2 h2.srt q
    · rfl
  have w1 := wo_ok a2 (by omega) (l := wr m) (by omega)
  have w2 := wo_ok h2 (by omega) (l := wr m) (by omega)
  rw [e] at w1
  have s1 := Same_ok (t := t.filter fun p => !(inS (wr m) p.1)) (small (h2.filter _) (by omega)).1
  have s2 := Sorted_ok a2.srt (small a2 (by omega)).1
  have s3 := Same_ok (t := t) (small h2 (by omega)).1
  simp only [law05_MsgOutside, sanity5, h1, g1, (Writes_ok g2).1, a1, w1, w2, s1, s2, s3, cond_true]

theorem plainReads (xs ys : List V_a3_uint8) (y : V_ref05_Raw) (hx : okT (.list T_a3_uint8) xs) (hz : okT (.list T_a3_uint8) ys) (hy : okT T_ref05_Raw y) : law05_MsgReads NN xs ys y = some true := by
  obtain ⟨s, h1, h2⟩ := table_ok hx
  obtain ⟨t, h3, h4⟩ := table_ok hz
  obtain ⟨m, g1, g2⟩ := made_ok hy
  obtain ⟨l1, l2, l3⟩ := wr_len g2
  obtain ⟨a1, a2⟩ := ap1 h2 g2
  have f1 := h4.filter fun p => !(inS (rds m) p.1)
  have f2 := h2.filter fun p => inS (rds m) p.1
  have j1 := Join_ok NN (a := t.filter fun p => !(inS (rds m) p.1)) (s.filter fun p => inS (rds m) p.1) f1.srt (by have := f1.len; have := f2.len; simp only [NN]; omega) (by have := f1.len; have := f2.len; omega)
  have u1 : Ok 24 7 (uniT (t.filter fun p => !(inS (rds m) p.1)) (s.filter fun p => inS (rds m) p.1)) := f1.uniT f2.len f2.key
  obtain ⟨c1, c2⟩ := good_ap u1 (by simp only [NN]; omega) (by omega) (by omega) g2
  have e1 : (app m s).filter (fun p => inS (wr m) p.1) = (app m (uniT (t.filter fun p => !(inS (rds m) p.1)) (s.filter fun p => inS (rds m) p.1))).filter (fun p => inS (wr m) p.1) := by
    refine Srt.ext (a2.srt.filter _) (c2.srt.filter _) fun k => ?_
    rw [fnd_filter (fun x => inS (wr m) x), fnd_filter (fun x => inS (wr m) x)]
    cases q : inS (wr m) k
    · rfl
    · simp only [cond_true]
      refine app_in g2 h2.srt u1.srt q fun j hj => ?_
      rw [uniT_fnd f2.srt, fnd_filter (fun x => inS (rds m) x), hj, fnd_filter (fun x => !(inS (rds m) x)), hj]
      simp only [cond_true, Bool.not_true, cond_false]
      cases fnd s j <;> rfl
  have w1 := wi_ok a2 (by omega) (l := wr m) (by omega)
  have w2 := wi_ok c2 (by omega) (l := wr m) (by omega)
  rw [← e1] at w2
  have s1 := Same_ok (t := (app m s).filter fun p => inS (wr m) p.1) (small (a2.filter _) (by omega)).1
  obtain ⟨r, r1, r2, r3⟩ := Minus_ok (l := kls m) (m := rds m) (by omega) (by
    have : (2 : Nat) ^ (rds m).length ≤ 2 ^ 1 := Nat.pow_le_pow_right (by omega) l2
    have := Nat.mul_le_mul l3 this
    omega)
  have r4 : r.length ≤ 4 := by
    have : (2 : Nat) ^ (rds m).length ≤ 2 ^ 1 := Nat.pow_le_pow_right (by omega) l2
    have := Nat.mul_le_mul l3 this
    omega
  have d1 := h2.filter fun p => !(inS r p.1)
  have d2 := h4.filter fun p => inS r p.1
  have j2 := Join_ok NN (a := s.filter fun p => !(inS r p.1)) (t.filter fun p => inS r p.1) d1.srt (by have := d1.len; have := d2.len; simp only [NN]; omega) (by have := d1.len; have := d2.len; omega)
  have u2 : Ok 24 7 (uniT (s.filter fun p => !(inS r p.1)) (t.filter fun p => inS r p.1)) := d1.uniT d2.len d2.key
  obtain ⟨b1, b2⟩ := good_ap u2 (by simp only [NN]; omega) (by omega) (by omega) g2
  have uf : ∀ j, inS r j = false → fnd (uniT (s.filter fun p => !(inS r p.1)) (t.filter fun p => inS r p.1)) j = fnd s j := fun j hj => by
    rw [uniT_fnd d2.srt, fnd_filter (fun x => inS r x), hj, fnd_filter (fun x => !(inS r x)), hj]
    rfl
  have e2 : app m s = app m (uniT (s.filter fun p => !(inS r p.1)) (t.filter fun p => inS r p.1)) := by
    refine Srt.ext a2.srt b2.srt fun k => ?_
    cases q : inS (wr m) k
    · rw [app_out g2 h2.srt q, app_out g2 u2.srt q, uf]
      rw [r2]
      cases q2 : inS (kls m) k
      · rfl
      · rw [kls_wr q2] at q; cases q
    · refine app_in g2 h2.srt u2.srt q fun j hj => ?_
      rw [uf]
      rw [r2, hj]
      cases inS (kls m) j <;> rfl
  rw [← e2] at b1
  have s2 := Same_ok (t := app m s) (small a2 (by omega)).1
  simp only [law05_MsgReads, sanity5, h1, h3, g1, (Reads_ok g2).1, (Writes_ok g2).1, (Kills_ok g2).1, wo_ok h4 (by omega) (l := rds m) (by omega), wi_ok h2 (by omega) (l := rds m) (by omega), j1, a1, w1, c1, w2, s1, Bool.not_true, cond_false, r1,
    wo_ok h2 (by omega) (l := r) (by omega), wi_ok h4 (by omega) (l := r) (by omega), j2, b1, s2, cond_true]

theorem plainFree (xs : List V_a3_uint8) (y : V_a2_ref05_Raw) (hx : okT (.list T_a3_uint8) xs) (hy : okT T_a2_ref05_Raw y) : law05_MsgFree NN xs y = some true := by
  obtain ⟨t, h1, h2⟩ := table_ok hx
  obtain ⟨m, g1, g2⟩ := made_ok hy.1
  obtain ⟨n, g3, g4⟩ := made_ok hy.2
  obtain ⟨a1, a2⟩ := ap1 h2 g2
  obtain ⟨b1, b2⟩ := ap1 h2 g4
  obtain ⟨c1, c2⟩ := ap2 h2 g2 g4
  obtain ⟨d1, d2⟩ := ap2 h2 g4 g2
  have f1 := (Free_ok g2 g4).1
  have f2 := (Free_ok g4 g2).1
  rw [free_comm n m] at f2
  have g1' : ref05_Made NN y.1 = some m := g1
  have g3' : ref05_Made NN y.2 = some n := g3
  simp only [law05_MsgFree, sanity5, h1, g1', g3', f1, f2]
  have eb : eqb (freeB m n) (freeB m n) = true := by simp [eqb]
  rw [eb, bif_f (show (!true) = false from rfl)]
  cases q : freeB m n
  · rfl
  · have e : app n (app m t) = app m (app n t) := Srt.ext c2.srt d2.srt fun k => free_swap g2 g4 h2.srt a2.srt b2.srt q k
    rw [e] at c1
    simp only [Bool.not_true, cond_false, c1, d1, Same_ok (t := app m (app n t)) (small d2 (by omega)).1, cond_true]

theorem plainMoves (xs : List V_a3_uint8) (y : V_ref05_Raw) (hx : okT (.list T_a3_uint8) xs) (hy : okT T_ref05_Raw y) : law05_MsgMoves NN xs y = some true := by
  obtain ⟨t, h1, h2⟩ := table_ok hx
  obtain ⟨m, g1, g2, g3⟩ := made_ok3 (x := ((3 : Int), y.2)) ⟨(show (Lit.int .u8 3).wf = true by decide), hy.2⟩
  have hk : m.1 = (4 : Int) := g3 (show Int.tmod 3 6 = 3 by decide)
  obtain ⟨e, rfl, he⟩ : ∃ e, m = mv 4 e ∧ e ∈ ends := by
    cases g2 with
    | move e he => exact ⟨e, rfl, he⟩
    | put k v n => simp at hk
    | del k => simp at hk
    | drop s => simp at hk
    | clone e => simp at hk
    | stamp s n => simp at hk
  obtain ⟨p1, p2⟩ := ends_path he
  have hback : (e.2, e.1) ∈ ends := by
    have h : (ends.all fun e => ends.contains (e.2, e.1)) = true := by decide +kernel
    simpa using List.all_eq_true.1 h e he
  obtain ⟨a1, a2⟩ := ap1 h2 g2
  have gc : Good (mv 5 e) := .clone e he
  have gb : Good (mv 4 (e.2, e.1)) := .move (e.2, e.1) hback
  obtain ⟨c1, c2⟩ := ap1 h2 gc
  have dd := drop_ap c2 (by simp only [NN]; omega) (preB e.1)
  have c3 : msg_All NN t [mv 5 e, dropMsg (preB e.1)] = some (app (mv 4 e) t) := All_ok (ms := [mv 5 e, dropMsg (preB e.1)]) (by simp [NN]) ⟨c1, dd, trivial⟩
  obtain ⟨b1, b2⟩ := ap2 h2 g2 gb
  have e2 : app (mv 4 (e.2, e.1)) (app (mv 4 e) t) = t.filter (fun p => !(inS [preB e.2] p.1)) := by
    refine Srt.ext b2.srt (h2.srt.filter _) fun k => ?_
    rw [fnd_move hback a2.srt, fnd_filter (fun x => !(inS [preB e.2] x)), in1, hasB_pre p2, fnd_move he h2.srt, fnd_move he h2.srt]
    cases q2 : e.2.isPrefixOf k
    · simp only [cond_false, Bool.not_false, cond_true]
      cases q1 : e.1.isPrefixOf k
      · rfl
      · simp only [cond_true]
        have k1 : e.1.isPrefixOf (e.2 ++ k.drop e.1.length) = false := by
          cases q3 : e.1.isPrefixOf (e.2 ++ k.drop e.1.length)
          · rfl
          · have := ends_apart he _ q3
            rw [show e.2.isPrefixOf (e.2 ++ k.drop e.1.length) = true by simp] at this; cases this
        have k2 : e.2.isPrefixOf (e.2 ++ k.drop e.1.length) = true := by simp
        rw [k1, k2]
        simp only [cond_false, cond_true, List.drop_left]
        rw [prefix_split q1]
    · rfl
  have w := wo_ok h2 (by omega) (l := [preB e.2]) (by simp)
  rw [e2] at b1
  have s1 := Same_ok (t := app (mv 4 e) t) (small a2 (by omega)).1
  have s2 := Same_ok (t := t.filter (fun p => !(inS [preB e.2] p.1))) (small (h2.filter _) (by omega)).1
  simp only [law05_MsgMoves, sanity5, h1, g1, (pre_ok p1).2, (pre_ok p2).2, a1, c3, s1, cond_true, b1, w, s2]

theorem app_twice {m : Mg} (hm : Good m) (h4 : eqi m.1 4 = false) {t : List Pr} (hs : Srt t) (hs' : Srt (app m t)) (k : B) : fnd (app m (app m t)) k = fnd (app m t) k := by
  cases q : inS (wr m) k
  · exact app_out hm hs' q
  · have gen : (∀ j, inS (rds m) j = true → inS (wr m) j = false) → fnd (app m (app m t)) k = fnd (app m t) k := fun h => app_in hm hs' hs q fun j hj => app_out hm hs (h j hj)
    cases hm with
    | put k v x => exact gen fun j hj => by cases hj
    | del k => exact gen fun j hj => by cases hj
    | drop s => exact gen fun j hj => by cases hj
    | move e => cases h4
    | clone e he =>
      refine gen fun j hj => ?_
      have a : inS (rds (mv 5 e)) j = hasB (preB e.1) j := in1 _ _
      have b : inS (wr (mv 5 e)) j = hasB (preB e.2) j := in1 _ _
      have hj : inS (rds (mv 5 e)) j = true := hj
      show inS (wr (mv 5 e)) j = false
      rw [a, hasB_pre (ends_path he).1] at hj
      rw [b, hasB_pre (ends_path he).2]
      exact ends_apart he j hj
    | stamp s x =>
      have a := fnd_stamp (t := app (stampMsg s x) t) s x k
      have b := fnd_stamp (t := t) s x k
      refine a.trans (Eq.trans ?_ b.symm)
      rw [b]
      cases hasB s k
      · rfl
      · cases fnd t k <;> rfl

theorem plainTwice (xs : List V_a3_uint8) (y : V_a2_ref05_Raw) (hx : okT (.list T_a3_uint8) xs) (hy : okT T_a2_ref05_Raw y) : law05_MsgTwice NN xs y = some true := by
  obtain ⟨t, h1, h2⟩ := table_ok hx
  obtain ⟨m, g1, g2⟩ := made_ok hy.1
  obtain ⟨n, g3, g4⟩ := made_ok hy.2
  obtain ⟨a1, a2⟩ := ap1 h2 g2
  obtain ⟨b1, b2⟩ := ap1 h2 g4
  obtain ⟨c1, c2⟩ := ap2 h2 g2 g2
  obtain ⟨d1, d2⟩ := ap2 h2 g2 g4
  have g1' : ref05_Made NN y.1 = some m := g1
  have g3' : ref05_Made NN y.2 = some n := g3
  simp only [law05_MsgTwice, sanity5, h1, g1', g3', a1, c1]
  cases q : eqi m.1 4
  · obtain ⟨k1, k2, k3⟩ := wr_len g4
    obtain ⟨l1, l2, l3⟩ := wr_len g2
    have e : app m (app m t) = app m t := Srt.ext c2.srt a2.srt fun k => app_twice g2 q h2.srt a2.srt k
    have s1 := Same_ok (t := app m t) (small a2 (by omega)).1
    have pw : (2 : Nat) ^ (rds n).length ≤ 2 ^ 1 := Nat.pow_le_pow_right (by omega) k2
    have pm := Nat.mul_le_mul k3 pw
    obtain ⟨r, r1, r2, r3⟩ := Minus_ok (l := kls n) (m := rds n) (by omega) (by omega)
    have pw2 : (2 : Nat) ^ r.length ≤ 2 ^ 4 := Nat.pow_le_pow_right (by omega) (by omega)
    have pm2 := Nat.mul_le_mul l1 pw2
    obtain ⟨r', r1', r2', r3'⟩ := Minus_ok (l := wr m) (m := r) (by omega) (by omega)
    simp only [cond_false, (Kills_ok g4).1, (Reads_ok g4).1, r1, (Writes_ok g2).1, r1', e]
    cases q2 : eqi (r'.length : Int) 0
    · simp only [cond_false, s1, cond_true]
    · have hr : r' = [] := by
        have := eqi_iff.1 q2
        exact List.eq_nil_of_length_eq_zero (by omega)
      have sub : ∀ j, inS (wr m) j = true → inS (kls n) j = true ∧ inS (rds n) j = false := fun j hj => by
        have := r2' j
        rw [hr, hj, r2 j] at this
        have z : inS [] j = false := rfl
        rw [z] at this
        revert this
        cases inS (kls n) j <;> cases inS (rds n) j <;> simp
      have e2 : app n (app m t) = app n t := by
        refine Srt.ext d2.srt b2.srt fun k => ?_
        cases q3 : inS (wr n) k
        · rw [app_out g4 a2.srt q3, app_out g4 h2.srt q3]
          refine app_out g2 h2.srt ?_
          cases q4 : inS (wr m) k
          · rfl
          · rw [kls_wr (sub k q4).1] at q3; cases q3
        · refine app_in g4 a2.srt h2.srt q3 fun j hj => app_out g2 h2.srt ?_
          cases q4 : inS (wr m) j
          · rfl
          · rw [(sub j q4).2] at hj; cases hj
      rw [e2] at d1
      have s2 := Same_ok (t := app n t) (small b2 (by omega)).1
      simp only [cond_true, d1, b1, s2, Bool.not_true, cond_false, s1]
  · obtain ⟨e, rfl, he⟩ : ∃ e, m = mv 4 e ∧ e ∈ ends := by
      cases g2 with
      | move e he => exact ⟨e, rfl, he⟩
      | put k v n => cases q
      | del k => cases q
      | drop s => cases q
      | clone e => cases q
      | stamp s n => cases q
    obtain ⟨p1, p2⟩ := ends_path he
    have e2 : app (mv 4 e) (app (mv 4 e) t) = t.filter (fun p => !(inS [preB e.1, preB e.2] p.1)) := by
      refine Srt.ext c2.srt (h2.srt.filter _) fun k => ?_
      rw [fnd_move he a2.srt, fnd_filter (fun x => !(inS [preB e.1, preB e.2] x)), in2, hasB_pre p1, hasB_pre p2, fnd_move he h2.srt, fnd_move he h2.srt]
      cases q1 : e.1.isPrefixOf k
      · cases q2 : e.2.isPrefixOf k
        · rfl
        · have k1 : e.1.isPrefixOf (e.1 ++ k.drop e.2.length) = true := by simp
          rw [k1]; rfl
      · rfl
    have w := wo_ok h2 (by omega) (l := [preB e.1, preB e.2]) (by simp)
    have s2 := Same_ok (t := t.filter (fun p => !(inS [preB e.1, preB e.2] p.1))) (small (h2.filter _) (by omega)).1
    simp only [cond_true, (pre_ok p1).2, (pre_ok p2).2, w, e2, s2]

/-! ## the reference -/
theorem sameS_l0 (N : Nat) : ∀ (post pre : List Sp) (n : Nat), post.length < n → Big (pre ++ post).length → ref02_Same_l0 N n (pre ++ post) (pre ++ post) (pre.length : Int) = some (.inr ((), ()))
  | _, _, 0, h, _ => absurd h (Nat.not_lt_zero _)
  | [], pre, n + 1, _, _ => by
    rw [ref02_Same_l0_succ]
    simp only [ref02_Same_l0_step, List.append_nil, Int.lt_irrefl, decide_false, cond_false]
  | q :: post, pre, n + 1, hn, hl => by
    simp only [List.length_cons] at hn
    have hl' : pre.length < 9223372036854775807 := by simp [Big] at hl; omega
    rw [ref02_Same_l0_succ]
    simp only [ref02_Same_l0_step, lt_mid, in_mid, cond_true, rd_mid, eqs_self, Bool.and_self, Bool.not_true, cond_false]
    rw [gd_t rfl, gd_t rfl, wr_mid (q := q) hl', app_mid (pre := pre) (q := q) (post := post)]
    exact sameS_l0 N post (pre ++ [q]) n (by omega) (by simpa using hl)
theorem sameS_ok {t : List Sp} (hN : t.length < 1000) : ref02_Same NN t t = some true := by
  have h := sameS_l0 NN t [] NN (by simp only [NN]; omega) (by simp only [List.nil_append, Big]; omega)
  have hz : (([] : List Sp).length : Int) = 0 := rfl
  simp only [List.nil_append, hz] at h
  simp only [ref02_Same, eqi_self, Bool.not_true, cond_false, h]

theorem mr_l1 (up : Bool) (t : List Pr) (i : Int) {m : Mg} (hm : Good m) : ∀ (post pre : List Mg) (n : Nat), post.length < n → Big (pre ++ post).length → (∀ x ∈ post, Good x) →
    law05_MsgMatchesReference_l1 NN n up t (pre ++ post) i (pre.length : Int) m.1 m.2.1 m.2.2.1 m.2.2.2.1.1 m.2.2.2.1.2 m.2.2.2.2.1 m.2.2.2.2.2.1 m.2.2.2.2.2.2 = some (.inr ((up, (t, (pre ++ post, i))), ()))
  | _, _, 0, h, _, _ => absurd h (Nat.not_lt_zero _)
  | [], pre, n + 1, _, _, _ => by
    rw [law05_MsgMatchesReference_l1_succ]
    simp only [law05_MsgMatchesReference_l1_step, List.append_nil, Int.lt_irrefl, decide_false, cond_false]
  | q :: post, pre, n + 1, hn, hl, hg => by
    simp only [List.length_cons] at hn
    have hl' : pre.length < 9223372036854775807 := by simp [Big] at hl; omega
    obtain ⟨f1, f2⟩ := Free_ok hm (hg q (by simp))
    have eb : eqb (freeB m q) (freeB m q) = true := by simp [eqb]
    rw [law05_MsgMatchesReference_l1_succ]
    simp only [law05_MsgMatchesReference_l1_step, lt_mid, in_mid, cond_true, rd_mid, f1, f2, eb, Bool.not_true, cond_false]
    rw [gd_t rfl, gd_t rfl, wr_mid (q := q) hl', app_mid (pre := pre) (q := q) (post := post)]
    exact mr_l1 up t i hm post (pre ++ [q]) n (by omega) (by simpa using hl) (fun x hx => hg x (by simp [hx]))

theorem mr_l0 (up : Bool) {t : List Pr} (ht : Ok 12 7 t) {all : List Mg} (hall : ∀ x ∈ all, Good x) (hlen : all.length ≤ 8) : ∀ (post pre : List Mg) (n : Nat), all = pre ++ post → post.length < n →
    law05_MsgMatchesReference_l0 NN n up t all (pre.length : Int) = some (.inr (up, ()))
  | _, _, 0, _, h => absurd h (Nat.not_lt_zero _)
  | [], pre, n + 1, he, _ => by
    have e : decide ((pre.length : Int) < (all.length : Int)) = false := by rw [he]; simp
    rw [law05_MsgMatchesReference_l0_succ]
    simp only [law05_MsgMatchesReference_l0_step, e, cond_false]
  | q :: post, pre, n + 1, he, hn => by
    simp only [List.length_cons] at hn
    have hl' : pre.length < 9223372036854775807 := by rw [he] at hlen; simp at hlen; omega
    have hq := hall q (by rw [he]; simp)
    have e1 : decide ((pre.length : Int) < (all.length : Int)) = true := by rw [he]; exact lt_mid
    have e2 : inB (pre.length : Int) all.length = true := by rw [he]; exact in_mid
    have e3 : rdL all (pre.length : Int) D_api_Msg = q := by rw [he]; exact rd_mid
    obtain ⟨a1, a2⟩ := ap1 ht hq
    obtain ⟨l1, l2, l3⟩ := wr_len hq
    have r1 := rapply_ok ht (by omega) (by omega) (by omega) hq
    have s1 := Same_ok (t := app q t) (small a2 (by omega)).1
    have s2 := sameS_ok (t := rds q) (by omega)
    have s3 := sameS_ok (t := wr q) (by omega)
    have s4 := sameS_ok (t := kls q) (by omega)
    have h1 := mr_l1 up t (pre.length : Int) hq all [] NN (by simp only [NN]; omega) (by simp only [List.nil_append, Big]; omega) hall
    have hz : (([] : List Mg).length : Int) = 0 := rfl
    simp only [List.nil_append, hz] at h1
    rw [law05_MsgMatchesReference_l0_succ]
    simp only [law05_MsgMatchesReference_l0_step, e1, e2, e3, cond_true, a1, r1, s1, Bool.not_true, cond_false, (Reads_ok hq).1, (Reads_ok hq).2, s2, (Writes_ok hq).1, (Writes_ok hq).2, s3, (Kills_ok hq).1, (Kills_ok hq).2, s4, h1]
    rw [gd_t rfl, wr_mid (q := q) hl']
    exact mr_l0 up ht hall hlen post (pre ++ [q]) n (by rw [he]; simp) (by omega)

theorem plainMatches (xs : List V_a3_uint8) (ys : List V_ref05_Raw) (hx : okT (.list T_a3_uint8) xs) (hy : okT (.list T_ref05_Raw) ys) : law05_MsgMatchesReference NN xs ys = some true := by
  obtain ⟨t, h1, h2⟩ := table_ok hx
  obtain ⟨l, g1, g2, g3⟩ := list_ok hy (k := 8) (by omega)
  have hpow : (2 : Nat) ^ l.length ≤ 2 ^ 8 := Nat.pow_le_pow_right (by omega) (by omega)
  have hpow' : (12 + 1) * 2 ^ l.length ≤ 13 * 2 ^ 8 := Nat.mul_le_mul_left _ hpow
  obtain ⟨f1, f2⟩ := good_fit (ms := l) g3 h2 (by omega) (by omega) (by omega)
  have a1 := All_ok (ms := l) (t := t) (by simp only [NN]; omega) f1
  have a2 := rAll_ok (ms := l) (by simp only [NN]; omega) g3 h2 (by omega) (by omega) (by omega)
  have s1 := Same_ok (t := apps l t) (small f2 (by omega)).1
  have m0 := mr_l0 true h2 g3 (by omega) l [] NN rfl (by simp only [NN]; omega)
  have hz : (([] : List Mg).length : Int) = 0 := rfl
  rw [hz] at m0
  simp only [law05_MsgMatchesReference, sanity5, h1, g1, a1, a2, s1, Bool.not_true, cond_false, m0]
end Ds
