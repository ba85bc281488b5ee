/- The plain law of PathMatchesReference. -/
import Derived.Test.YtmffojmbfphidaaDoorDsPlaces
set_option linter.all false
namespace Ds
open Go Go.Dv
set_option maxRecDepth 100000
set_option linter.unusedVariables false

theorem no_two {x : B} : validB (x ++ [47] ++ [47]) = false := by
  cases h : validB (x ++ [47] ++ [47])
  · rfl
  · exfalso
    obtain ⟨l, hl, e⟩ := valid_names h
    rcases List.eq_nil_or_concat l with rfl | ⟨l', n, rfl⟩
    · simp [joinP] at e
    · have hn := hl n (by simp)
      obtain ⟨n', c, rfl⟩ : ∃ n' c, n = n' ++ [c] := by
        rcases snoc_cases n with rfl | h
        · exact absurd (name_len hn).1 (by simp)
        · exact h
      have hc : c ≠ 47 := fun e => name_sl hn (by simp [e])
      simp only [List.concat_eq_append, joinP_append] at e
      have e2 : joinP [n' ++ [c]] = n' ++ [c] ++ [47] := by simp [joinP]
      rw [e2, ← List.append_assoc, ← List.append_assoc] at e
      have e := List.append_cancel_right e
      have := (List.append_inj' e rfl).2
      simp at this
      exact hc this.symm
theorem parse_agree {s : B} (h : s.length < 1000) : path_Parse NN s = some (parseR s) ∧ ref01_Parse NN s = some (parseR s) := by
  refine ⟨Parse_gen h, ?_⟩
  have pp : ∀ b, ref01_Parse_p1 NN s b = some (bif b then .inl (([], 10), ()) else .inr (s, ())) := fun b => by cases b <;> rfl
  cases s with
  | nil => rfl
  | cons b t =>
    simp only [List.length_cons] at h
    cases e0 : eqs (b :: t) [47]
    case true => rw [eqs_iff.1 e0]; rfl
    simp only [ref01_Parse, e0, cond_false, pp, cond_true]
    cases t with
    | nil =>
      have : (b == 47) = false := by
        cases e : b == 47
        · rfl
        · rw [eq_of_beq e] at e0; cases e0
      simp only [parseR, this, cond_false]
      rfl
    | cons c t =>
      have d1 : decide (((b :: c :: t).length : Int) < 2) = false := by simp; omega
      simp only [d1, cond_false]
      have ec : eqs (c :: t) [] = false := rfl
      cases e1 : b == 47
      · have : eqi (bt (b :: c :: t) 0) 47 = false := eqi_ne fun h => by
          have h : (b.toNat : Int) = 47 := h
          have : b = 47 := by rw [← UInt8.toNat_inj]; have : (47 : UInt8).toNat = 47 := rfl; omega
          rw [this] at e1; cases e1
        simp only [parseR, e1, cond_false, this, Bool.not_false, cond_true]
        cases decide ((200 : Int) < ((b :: c :: t).length : Int))
        · simp only [cond_false]; rw [gd_t (by simp [inB]; omega)]
        · rfl
      · have e1' := eq_of_beq e1
        subst e1'
        have : eqi (bt ((47 : UInt8) :: c :: t) 0) 47 = true := rfl
        simp only [parseR, e1, ec, cond_true, cond_false, this, Bool.not_true]
        cases d2 : decide ((200 : Int) < (((47 : UInt8) :: c :: t).length : Int))
        case true => rfl
        simp only [cond_false]
        rw [gd_t (by simp [inB]; omega)]
        have w : IntKind.wrap .i64 ((((47 : UInt8) :: c :: t).length : Int) - 1) = ((c :: t).length : Int) := by
          rw [w64 (by simp; omega) (by simp at h ⊢; omega)]; simp
        have c1 : cut2 ((47 : UInt8) :: c :: t) (1 : Int) (((47 : UInt8) :: c :: t).length : Int) = c :: t := by
          unfold cut2
          show List.take _ (c :: t) = _
          exact List.take_of_length_le (by simp; omega)
        have g1 : ∀ {R : Type} (K : Option R), gd (decide (0 ≤ (1 : Int)) && (decide ((1 : Int) ≤ (((47 : UInt8) :: c :: t).length : Int)) && decide ((((47 : UInt8) :: c :: t).length : Int) ≤ (((47 : UInt8) :: c :: t).length : Int)))) K = K := fun K => gd_t (by simp; omega) K
        have g2 : ∀ {R : Type} (K : Option R), gd (decide ((c :: t).length + ([47] : B).length < maxS)) K = K := fun K => gd_p (by simp only [maxS, List.length_cons, List.length_nil]; simp at h; omega) K
        simp only [w, c1]
        rw [gd_t (b := inB ((c :: t).length : Int) _) (by simp [inB]; omega)]
        obtain ⟨t', d, ht⟩ : ∃ t' d, c :: t = t' ++ [d] := by
          rcases snoc_cases (c :: t) with h | h
          · cases h
          · exact h
        have hl' : t'.length < 999 := by
          have := congrArg List.length ht
          simp at this h; omega
        have hb : bt ((47 : UInt8) :: c :: t) ((c :: t).length : Int) = (d.toNat : Int) := by
          rw [ht]
          have e : (((t' ++ [d]).length : Int)).toNat = t'.length + 1 := by simp
          unfold bt
          rw [e, List.getD_cons_succ]
          simp
        rw [hb]
        have P0 : ref01_Parse_p0 NN ((47 : UInt8) :: c :: t) = some ((c :: t ++ [47], 0), ()) := by
          simp only [ref01_Parse_p0, c1, g1, g2]
        simp only [g1, g2]
        rw [ht] at h P0 ⊢
        by_cases ed : d = 47
        · subst ed
          have e : eqi ((47 : UInt8).toNat : Int) 47 = true := rfl
          rw [e, no_two]
          rfl
        · have e : eqi (d.toNat : Int) 47 = false := eqi_ne fun h => ed (by
            rw [← UInt8.toNat_inj]; have : (47 : UInt8).toNat = 47 := rfl
            omega)
          simp only [e, cond_false, rValid_eq (show (t' ++ [d] ++ [47]).length < 100000 by simp; omega)]
          cases validB (t' ++ [d] ++ [47]) <;> simp only [Bool.not_true, Bool.not_false, cond_true, cond_false, P0]
theorem join_agree {p n : B} (hp : p.length < 1000) (hn : n.length < 1000) : ref01_Join NN p n = some (joinR p n) := by
  have w : IntKind.wrap .i64 ((p.length : Int) + (n.length : Int)) = (p.length : Int) + (n.length : Int) := w64 (by omega) (by omega)
  have w2 : IntKind.wrap .i64 ((p.length : Int) + (n.length : Int) + (1 : Int)) = (p.length : Int) + (n.length : Int) + 1 := w64 (by omega) (by omega)
  simp only [ref01_Join, rValid_eq (s := p) (by omega), rName_eq (s := n) (by omega), w, w2, joinR]
  cases validB p
  · rfl
  · simp only [Bool.not_true, cond_false]
    cases nameB n
    · rfl
    · simp only [Bool.not_true, cond_false]
      cases decide ((200 : Int) < (p.length : Int) + (n.length : Int) + 1)
      · simp only [cond_false]
        rw [gd_p (by simp only [maxS]; omega), gd_p (by simp only [maxS, List.length_append, List.length_singleton]; omega)]
      · rfl
theorem split_agree {s : B} (h : s.length < 1000) : ∃ a b e, law01_split NN s = some (a, b, e) ∧ ref01_Split NN s = some (a, b, e) := by
  cases hv : validB s
  · refine ⟨[], [], 10, ?_, ?_⟩
    · simp only [law01_split, path_Split, Valid_eq (show s.length < 1000000 by omega), hv, Bool.not_false, cond_true]
    · simp only [ref01_Split, rValid_eq (show s.length < 100000 by omega), hv, Bool.not_false, cond_true]
  · obtain ⟨l, hl, rfl⟩ := valid_names hv
    rcases List.eq_nil_or_concat l with rfl | ⟨l', n, rfl⟩
    · exact ⟨[], [], 337, split_nil, rfl⟩
    · have hn := hl n (by simp)
      have e2 : joinP (l'.concat n) = joinP l' ++ n ++ [47] := by simp [joinP]
      have hs := spl_join (l := l'.concat n) fun m hm => name_sl (hl m hm)
      rw [e2] at hv h hs ⊢
      simp only [List.length_append, List.length_singleton] at h
      refine ⟨joinP l', n, 0, ?_, ?_⟩
      · have hend : joinP l' = [] ∨ ∃ t, joinP l' = t ++ [47] := valid_end (valid_join fun m hm => hl m (by simp [hm]))
        have := Split_eq (a := joinP l') (b := n) hv (name_sl hn) hend (by simp; omega)
        simp only [law01_split, this]
      · have w1 : IntKind.wrap .i64 (((l'.concat n).length : Int) - 1) = (l'.length : Int) := by
          have hb := spl_len (joinP l' ++ n ++ [47])
          rw [hs] at hb
          have := hb.1
          simp at this ⊢
          exact w64 (by omega) (by omega)
        have z0 : eqi ((l'.concat n).length : Int) 0 = false := eqi_ne (by simp; omega)
        have hi : inB (l'.length : Int) (l'.concat n).length = true := by simp [inB]; omega
        have hr : rdL (l'.concat n) (l'.length : Int) [] = n := by simp [rdL]
        have w2 : IntKind.wrap .i64 (((joinP l' ++ n ++ [47]).length : Int) - (n.length : Int)) = ((joinP l').length : Int) + 1 := by
          rw [w64 (by simp; omega) (by simp; omega)]; simp; omega
        have w3 : IntKind.wrap .i64 (((joinP l').length : Int) + 1 - 1) = ((joinP l').length : Int) := by
          rw [w64 (by omega) (by omega)]; omega
        have c : cut2 (joinP l' ++ n ++ [47]) (0 : Int) ((joinP l').length : Int) = joinP l' := by
          unfold cut2
          simp
        simp only [ref01_Split, rValid_eq (show (joinP l' ++ n ++ [47]).length < 100000 by simp; omega), hv, rNames_eq (show (joinP l' ++ n ++ [47]).length < 1000000 by simp; omega), hs, Bool.not_true, cond_false, z0, w1, hr, w2, w3, c]
        rw [gd_t hi, gd_t (by simp; omega)]

theorem z00 : eqi (0 : Int) 0 = true := rfl
theorem z01 : eqi (0 : Int) 1 = false := rfl
theorem z02 : eqi (0 : Int) 2 = false := rfl
theorem z03 : eqi (0 : Int) 3 = false := rfl
theorem z10 : eqi (1 : Int) 0 = false := rfl
theorem z20 : eqi (2 : Int) 0 = false := rfl
theorem z30 : eqi (3 : Int) 0 = false := rfl
theorem eqb_self (b : Bool) : eqb b b = true := by cases b <;> rfl

theorem match_s_0 {s p a c : B} {e g k : Int} {x1 : B} {x2 x3 : Int} {x4 t0 t1 t2 t3 : B} (h : t0.length < 1000) : law01_PathMatchesReference_s4_0 NN s true p a e a e c g c g k k t0 t1 t2 t3 x1 x2 x3 x4 x1 x2 x3 x4 = some ((s, (true, (p, ((), ((0 : Int), false))))), ((t0, (t1, (t2, t3))), ())) := by
  obtain ⟨y1, y2, y3, h1, h2⟩ := split_agree h
  simp only [law01_PathMatchesReference_s4_0, Valid_eq (show t0.length < 1000000 by omega), rValid_eq (show t0.length < 100000 by omega), h1, h2, Under_eq t0 p (by omega), rUnder_eq, eqs_self, eqi_self, eqb_self, Bool.and_self, Bool.not_true, cond_false]
theorem match_p3_0 {s p a c : B} {e g : Int} {t0 t1 t2 t3 : B} (h : t0.length < 990) : law01_PathMatchesReference_p3 NN s true p 0 a e a e c g c g t0 t1 t2 t3 = some (.inr ((s, (true, (p, ((), (0 : Int))))), ((t0, (t1, (t2, t3))), ()))) := by
  obtain ⟨⟨x1, x2, x3, x4⟩, k, p1, r1⟩ := places_agree (t0 ++ [1]) (by simp; omega)
  have g0 : ∀ {R : Type} (K : Option R), gd (decide (t0.length + ([1] : B).length < maxS)) K = K := fun K => gd_p (by simp only [maxS, List.length_singleton]; omega) K
  simp only [law01_PathMatchesReference_p3, law01_PathMatchesReference_s4, law01_PathMatchesReference_p5, z00, z01, z02, z03, z10, z20, z30, q11, q12, q13, q21, q22, q23, q31, q32, q33, cond_true, cond_false, g0, p1, r1, match_s_0 (show t0.length < 1000 by omega)]
theorem match_p2_0 {s p a : B} {e : Int} {t0 t1 t2 t3 : B} (h : t0.length < 990) (hs : s.length < 990) : law01_PathMatchesReference_p2 NN s true p 0 a e a e t0 t1 t2 t3 = some (.inr ((s, (true, (p, ((), (0 : Int))))), ((t0, (t1, (t2, t3))), ()))) := by
  have j1 := Join_gen (p := t0) (n := s) (by omega) (by omega)
  have j2 := join_agree (p := t0) (n := s) (by omega) (by omega)
  simp only [law01_PathMatchesReference_p2, z00, z01, z02, z03, z10, z20, z30, q11, q12, q13, q21, q22, q23, q31, q32, q33, cond_true, cond_false, j1, j2, match_p3_0 h]
theorem match_s_1 {s p a c : B} {e g k : Int} {x1 : B} {x2 x3 : Int} {x4 t0 t1 t2 t3 : B} (h : t1.length < 1000) : law01_PathMatchesReference_s4_1 NN s true p a e a e c g c g k k t0 t1 t2 t3 x1 x2 x3 x4 x1 x2 x3 x4 = some ((s, (true, (p, ((), ((1 : Int), false))))), ((t0, (t1, (t2, t3))), ())) := by
  obtain ⟨y1, y2, y3, h1, h2⟩ := split_agree h
  simp only [law01_PathMatchesReference_s4_1, Valid_eq (show t1.length < 1000000 by omega), rValid_eq (show t1.length < 100000 by omega), h1, h2, Under_eq t1 p (by omega), rUnder_eq, eqs_self, eqi_self, eqb_self, Bool.and_self, Bool.not_true, cond_false]
theorem match_p3_1 {s p a c : B} {e g : Int} {t0 t1 t2 t3 : B} (h : t1.length < 990) : law01_PathMatchesReference_p3 NN s true p 1 a e a e c g c g t0 t1 t2 t3 = some (.inr ((s, (true, (p, ((), (1 : Int))))), ((t0, (t1, (t2, t3))), ()))) := by
  obtain ⟨⟨x1, x2, x3, x4⟩, k, p1, r1⟩ := places_agree (t1 ++ [1]) (by simp; omega)
  have g0 : ∀ {R : Type} (K : Option R), gd (decide (t1.length + ([1] : B).length < maxS)) K = K := fun K => gd_p (by simp only [maxS, List.length_singleton]; omega) K
  simp only [law01_PathMatchesReference_p3, law01_PathMatchesReference_s4, law01_PathMatchesReference_p5, z00, z01, z02, z03, z10, z20, z30, q11, q12, q13, q21, q22, q23, q31, q32, q33, cond_true, cond_false, g0, p1, r1, match_s_1 (show t1.length < 1000 by omega)]
theorem match_p2_1 {s p a : B} {e : Int} {t0 t1 t2 t3 : B} (h : t1.length < 990) (hs : s.length < 990) : law01_PathMatchesReference_p2 NN s true p 1 a e a e t0 t1 t2 t3 = some (.inr ((s, (true, (p, ((), (1 : Int))))), ((t0, (t1, (t2, t3))), ()))) := by
  have j1 := Join_gen (p := t1) (n := s) (by omega) (by omega)
  have j2 := join_agree (p := t1) (n := s) (by omega) (by omega)
  simp only [law01_PathMatchesReference_p2, z00, z01, z02, z03, z10, z20, z30, q11, q12, q13, q21, q22, q23, q31, q32, q33, cond_true, cond_false, j1, j2, match_p3_1 h]
theorem match_s_2 {s p a c : B} {e g k : Int} {x1 : B} {x2 x3 : Int} {x4 t0 t1 t2 t3 : B} (h : t2.length < 1000) : law01_PathMatchesReference_s4_2 NN s true p a e a e c g c g k k t0 t1 t2 t3 x1 x2 x3 x4 x1 x2 x3 x4 = some ((s, (true, (p, ((), ((2 : Int), false))))), ((t0, (t1, (t2, t3))), ())) := by
  obtain ⟨y1, y2, y3, h1, h2⟩ := split_agree h
  simp only [law01_PathMatchesReference_s4_2, Valid_eq (show t2.length < 1000000 by omega), rValid_eq (show t2.length < 100000 by omega), h1, h2, Under_eq t2 p (by omega), rUnder_eq, eqs_self, eqi_self, eqb_self, Bool.and_self, Bool.not_true, cond_false]
theorem match_p3_2 {s p a c : B} {e g : Int} {t0 t1 t2 t3 : B} (h : t2.length < 990) : law01_PathMatchesReference_p3 NN s true p 2 a e a e c g c g t0 t1 t2 t3 = some (.inr ((s, (true, (p, ((), (2 : Int))))), ((t0, (t1, (t2, t3))), ()))) := by
  obtain ⟨⟨x1, x2, x3, x4⟩, k, p1, r1⟩ := places_agree (t2 ++ [1]) (by simp; omega)
  have g0 : ∀ {R : Type} (K : Option R), gd (decide (t2.length + ([1] : B).length < maxS)) K = K := fun K => gd_p (by simp only [maxS, List.length_singleton]; omega) K
  simp only [law01_PathMatchesReference_p3, law01_PathMatchesReference_s4, law01_PathMatchesReference_p5, z00, z01, z02, z03, z10, z20, z30, q11, q12, q13, q21, q22, q23, q31, q32, q33, cond_true, cond_false, g0, p1, r1, match_s_2 (show t2.length < 1000 by omega)]
theorem match_p2_2 {s p a : B} {e : Int} {t0 t1 t2 t3 : B} (h : t2.length < 990) (hs : s.length < 990) : law01_PathMatchesReference_p2 NN s true p 2 a e a e t0 t1 t2 t3 = some (.inr ((s, (true, (p, ((), (2 : Int))))), ((t0, (t1, (t2, t3))), ()))) := by
  have j1 := Join_gen (p := t2) (n := s) (by omega) (by omega)
  have j2 := join_agree (p := t2) (n := s) (by omega) (by omega)
  simp only [law01_PathMatchesReference_p2, z00, z01, z02, z03, z10, z20, z30, q11, q12, q13, q21, q22, q23, q31, q32, q33, cond_true, cond_false, j1, j2, match_p3_2 h]
theorem match_s_3 {s p a c : B} {e g k : Int} {x1 : B} {x2 x3 : Int} {x4 t0 t1 t2 t3 : B} (h : t3.length < 1000) : law01_PathMatchesReference_s4_3 NN s true p a e a e c g c g k k t0 t1 t2 t3 x1 x2 x3 x4 x1 x2 x3 x4 = some ((s, (true, (p, ((), ((3 : Int), false))))), ((t0, (t1, (t2, t3))), ())) := by
  obtain ⟨y1, y2, y3, h1, h2⟩ := split_agree h
  simp only [law01_PathMatchesReference_s4_3, Valid_eq (show t3.length < 1000000 by omega), rValid_eq (show t3.length < 100000 by omega), h1, h2, Under_eq t3 p (by omega), rUnder_eq, eqs_self, eqi_self, eqb_self, Bool.and_self, Bool.not_true, cond_false]
theorem match_p3_3 {s p a c : B} {e g : Int} {t0 t1 t2 t3 : B} (h : t3.length < 990) : law01_PathMatchesReference_p3 NN s true p 3 a e a e c g c g t0 t1 t2 t3 = some (.inr ((s, (true, (p, ((), (3 : Int))))), ((t0, (t1, (t2, t3))), ()))) := by
  obtain ⟨⟨x1, x2, x3, x4⟩, k, p1, r1⟩ := places_agree (t3 ++ [1]) (by simp; omega)
  have g0 : ∀ {R : Type} (K : Option R), gd (decide (t3.length + ([1] : B).length < maxS)) K = K := fun K => gd_p (by simp only [maxS, List.length_singleton]; omega) K
  simp only [law01_PathMatchesReference_p3, law01_PathMatchesReference_s4, law01_PathMatchesReference_p5, z00, z01, z02, z03, z10, z20, z30, q11, q12, q13, q21, q22, q23, q31, q32, q33, cond_true, cond_false, g0, p1, r1, match_s_3 (show t3.length < 1000 by omega)]
theorem match_p2_3 {s p a : B} {e : Int} {t0 t1 t2 t3 : B} (h : t3.length < 990) (hs : s.length < 990) : law01_PathMatchesReference_p2 NN s true p 3 a e a e t0 t1 t2 t3 = some (.inr ((s, (true, (p, ((), (3 : Int))))), ((t0, (t1, (t2, t3))), ()))) := by
  have j1 := Join_gen (p := t3) (n := s) (by omega) (by omega)
  have j2 := join_agree (p := t3) (n := s) (by omega) (by omega)
  simp only [law01_PathMatchesReference_p2, z00, z01, z02, z03, z10, z20, z30, q11, q12, q13, q21, q22, q23, q31, q32, q33, cond_true, cond_false, j1, j2, match_p3_3 h]
theorem match_l0 {s p t0 t1 t2 t3 : B} (hs : s.length < 990) (h0 : t0.length < 990) (h1 : t1.length < 990) (h2 : t2.length < 990) (h3 : t3.length < 990) : law01_PathMatchesReference_l0 NN NN s true p 0 t0 t1 t2 t3 = some (.inr ((true, p), ())) := by
  have c0 : decide ((0 : Int) < 4) = true := rfl
  have c1 : decide ((1 : Int) < 4) = true := rfl
  have c2 : decide ((2 : Int) < 4) = true := rfl
  have c3 : decide ((3 : Int) < 4) = true := rfl
  have c4 : decide ((4 : Int) < 4) = false := rfl
  have w0 : IntKind.wrap .i64 ((0 : Int) + 1) = 1 := by decide
  have w1 : IntKind.wrap .i64 ((1 : Int) + 1) = 2 := by decide
  have w2 : IntKind.wrap .i64 ((2 : Int) + 1) = 3 := by decide
  have w3 : IntKind.wrap .i64 ((3 : Int) + 1) = 4 := by decide
  show law01_PathMatchesReference_l0 NN (999995 + 1 + 1 + 1 + 1 + 1) s true p 0 t0 t1 t2 t3 = _
  obtain ⟨a0, b0⟩ := parse_agree (s := t0) (by omega)
  rw [law01_PathMatchesReference_l0_succ]
  simp only [law01_PathMatchesReference_l0_step, c0, z00, z01, z02, z03, z10, z20, z30, q11, q12, q13, q21, q22, q23, q31, q32, q33, cond_true, cond_false, a0, b0, match_p2_0 h0 hs, law01_PathMatchesReference_p1, w0]
  obtain ⟨a1, b1⟩ := parse_agree (s := t1) (by omega)
  rw [law01_PathMatchesReference_l0_succ]
  simp only [law01_PathMatchesReference_l0_step, c1, z00, z01, z02, z03, z10, z20, z30, q11, q12, q13, q21, q22, q23, q31, q32, q33, cond_true, cond_false, a1, b1, match_p2_1 h1 hs, law01_PathMatchesReference_p1, w1]
  obtain ⟨a2, b2⟩ := parse_agree (s := t2) (by omega)
  rw [law01_PathMatchesReference_l0_succ]
  simp only [law01_PathMatchesReference_l0_step, c2, z00, z01, z02, z03, z10, z20, z30, q11, q12, q13, q21, q22, q23, q31, q32, q33, cond_true, cond_false, a2, b2, match_p2_2 h2 hs, law01_PathMatchesReference_p1, w2]
  obtain ⟨a3, b3⟩ := parse_agree (s := t3) (by omega)
  rw [law01_PathMatchesReference_l0_succ]
  simp only [law01_PathMatchesReference_l0_step, c3, z00, z01, z02, z03, z10, z20, z30, q11, q12, q13, q21, q22, q23, q31, q32, q33, cond_true, cond_false, a3, b3, match_p2_3 h3 hs, law01_PathMatchesReference_p1, w3]
  rw [law01_PathMatchesReference_l0_succ]
  simp only [law01_PathMatchesReference_l0_step, c4, cond_false]

theorem text_agree {p : B} (h : validB p = true) (hl : p.length < 1000) : ∃ x, path_Text NN p = some x ∧ ref01_Text NN p = some x := by
  rcases valid_end h with rfl | ⟨t, rfl⟩
  · exact ⟨_, Text_nil, rText_nil⟩
  · simp only [List.length_append, List.length_singleton] at hl
    exact ⟨_, Text_sl t (by omega), rText_sl t (by omega)⟩

theorem plainMatch (l : List Int) (s : List UInt8) (w : V_a2_uint8) (hl : okSh (.list (.int .u8)) l) (hs : okSh .str s) (hw : okSh (.val T_a2_uint8) w) : law01_PathMatchesReference NN l s w = some true := by
  have hu := u8s_of hl
  have hp := madeP_len hu
  have hv := madeP_valid hu
  obtain ⟨u, v⟩ := w
  have u0 : 0 ≤ u ∧ u < 256 := u8_of_wf hw.1
  obtain ⟨x, t1, t2⟩ := text_agree hv (by omega)
  simp only [law01_PathMatchesReference, sanity1, Made_eq hu]
  generalize madeP l = p at *
  cases d1 : decide ((220 : Int) < (s.length : Int))
  case true => rfl
  have d1 := of_decide_eq_false d1
  simp only [cond_false]
  have c3 : (bytesU [v]).length = 1 := rfl
  cases d2 : decide ((0 : Int) < (p.length : Int))
  · simp only [cond_false]
    rw [gd_p (by simp only [maxS, List.length_singleton]; omega), match_l0 (by omega) (by omega) (by omega) (by omega) (by simp; omega)]
    simp only [t1, t2, eqs_self, cond_true]
  · have d2 := of_decide_eq_true d2
    have wu : IntKind.wrap .i64 u = u := w64 (by omega) (by omega)
    have z : eqi (p.length : Int) 0 = false := eqi_ne (by omega)
    have i0 := Int.tmod_nonneg (p.length : Int) u0.1
    have i1 : Int.tmod u (p.length : Int) < (p.length : Int) := Int.tmod_lt_of_pos _ (by omega)
    simp only [cond_true, wu, z, Bool.not_false]
    generalize Int.tmod u (p.length : Int) = i at *
    have w : IntKind.wrap .i64 (i + (1 : Int)) = i + 1 := w64 (by omega) (by omega)
    have c1 : (cut2 p (0 : Int) i).length ≤ p.length := by unfold cut2; simp; omega
    have c2 : (cut2 p (i + 1) (p.length : Int)).length ≤ p.length := by unfold cut2; simp
    rw [gd_t rfl, gd_t (by simp; omega), gd_p (by simp only [maxS, c3]; omega)]
    simp only [w]
    rw [gd_t (by simp; omega), gd_p (by simp only [maxS, List.length_append, c3]; omega), gd_p (by simp only [maxS, List.length_append, List.length_singleton, c3]; omega)]
    rw [match_l0 (by omega) (by omega) (by simp only [List.length_append, c3]; omega) (by omega) (by simp only [List.length_append, List.length_singleton, c3]; omega)]
    simp only [t1, t2, eqs_self, cond_true]
end Ds
