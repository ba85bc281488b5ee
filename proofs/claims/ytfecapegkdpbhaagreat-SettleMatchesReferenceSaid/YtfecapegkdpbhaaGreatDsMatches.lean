/- The plain law of SettleMatchesReference. -/
import Derived.Test.YtfecapegkdpbhaaGreatDsSpans
set_option linter.all false
namespace Ds
open Go Go.Dv
set_option maxRecDepth 100000
set_option linter.unusedVariables false

abbrev Sp := Ty.T T_api_Span

theorem cr_l0 {k : Int} (hk : k = 4 ∨ k = 5) {e : B × B} (he : e ∈ ends) : ∀ (post pre : List Sp) (n : Nat) (b : Bool), post.length < n → (pre ++ post).length < 1000000 → (∀ s ∈ post, s ∈ areas) →
    ref08_Crosses_l0 NN n b (pre.length : Int) k [] [] [] [] e.1 e.2 0 (pre ++ post) = some (b && post.all (fun s => !(liesC e s)), ())
  | [], pre, n + 1, b, _, _, _ => by
    show ref08_Crosses_l0_step NN (fun b0 b1 b2 b3 b4 b5 b6 b7 b8 b9 b10 => ref08_Crosses_l0 NN n b0 b1 b2 b3 b4 b5 b6 b7 b8 b9 b10) b (pre.length : Int) k [] [] [] [] e.1 e.2 0 (pre ++ []) = _
    simp only [ref08_Crosses_l0_step, List.append_nil, Int.lt_irrefl, decide_false, cond_false, List.all_nil, Bool.and_true]
  | [], pre, 0, b, h, _, _ => absurd h (Nat.not_lt_zero _)
  | q :: post, pre, 0, b, h, _, _ => absurd h (Nat.not_lt_zero _)
  | q :: post, pre, n + 1, b, hn, hl, hq => by
    have ih := fun b => cr_l0 hk he post (pre ++ [q]) n b (by simp at hn; omega) (by simpa using hl) (fun m hm => hq m (by simp [hm]))
    have hl' : pre.length < 9223372036854775807 := by simp at hl; omega
    have hr : ref08_Lies NN (mv k e) q = some (liesC e q) := (lies_eq he (hq q (by simp)) hk).2
    simp only [mv] at hr
    show ref08_Crosses_l0_step NN (fun b0 b1 b2 b3 b4 b5 b6 b7 b8 b9 b10 => ref08_Crosses_l0 NN n b0 b1 b2 b3 b4 b5 b6 b7 b8 b9 b10) b (pre.length : Int) k [] [] [] [] e.1 e.2 0 (pre ++ q :: post) = _
    simp only [ref08_Crosses_l0_step, lt_mid, in_mid, cond_true, getD_mid]
    rw [gd_t rfl, wr_mid (q := q) hl', app_mid (pre := pre) (q := q) (post := post)]
    cases b
    · exact ih false
    · simp only [cond_true]
      rw [hr]
      exact ih _

theorem cr_no (k : Int) (a0 a1 a2 a3 a4 a5 : B) (a6 : Int) : ∀ (post pre : List Sp) (n : Nat), post.length < n → (pre ++ post).length < 1000000 →
    ref08_Crosses_l0 NN n false (pre.length : Int) k a0 a1 a2 a3 a4 a5 a6 (pre ++ post) = some (false, ())
  | [], pre, n + 1, _, _ => by
    show ref08_Crosses_l0_step NN (fun b0 b1 b2 b3 b4 b5 b6 b7 b8 b9 b10 => ref08_Crosses_l0 NN n b0 b1 b2 b3 b4 b5 b6 b7 b8 b9 b10) false (pre.length : Int) k a0 a1 a2 a3 a4 a5 a6 (pre ++ []) = _
    simp only [ref08_Crosses_l0_step, List.append_nil, Int.lt_irrefl, decide_false, cond_false]
  | [], pre, 0, h, _ => absurd h (Nat.not_lt_zero _)
  | q :: post, pre, 0, h, _ => absurd h (Nat.not_lt_zero _)
  | q :: post, pre, n + 1, hn, hl => by
    have ih := cr_no k a0 a1 a2 a3 a4 a5 a6 post (pre ++ [q]) n (by simp at hn; omega) (by simpa using hl)
    have hl' : pre.length < 9223372036854775807 := by simp at hl; omega
    show ref08_Crosses_l0_step NN (fun b0 b1 b2 b3 b4 b5 b6 b7 b8 b9 b10 => ref08_Crosses_l0 NN n b0 b1 b2 b3 b4 b5 b6 b7 b8 b9 b10) false (pre.length : Int) k a0 a1 a2 a3 a4 a5 a6 (pre ++ q :: post) = _
    simp only [ref08_Crosses_l0_step, lt_mid, cond_true, cond_false]
    rw [wr_mid (q := q) hl', app_mid (pre := pre) (q := q) (post := post)]
    exact ih

theorem cross_same {ps : List B} (hp : spansOk ps = true) {m : Mg} (hm : Good m) : ∃ b, route_Crosses NN m ps = some b ∧ ref08_Crosses NN m ps = some b ∧ (b = true → m.1 = (4 : Int) ∨ m.1 = (5 : Int)) := by
  obtain ⟨l, h1, h2⟩ := okO_some hp
  simp only [Bool.and_eq_true] at h2
  obtain ⟨⟨hlen, hall⟩, hpaths⟩ := h2
  have hlen := Nat.le_of_ble_eq_true hlen
  rcases good_kind hm with ⟨k, e, rfl, hk, he⟩ | ⟨k4, k5⟩
  · obtain ⟨kk, h3, h4⟩ := okO_some (List.all_eq_true.1 hpaths e.1 (ends_path he).1)
    obtain ⟨s, h5, h6⟩ := okO_some h4
    simp only [Bool.and_eq_true] at h6
    have hs : s ∈ areas := (List.contains_iff_mem (α := B × B)).1 h6.1
    have hany := List.all_eq_true.1 h6.2 e he
    rw [eqs_self, cond_true] at hany
    have hany : List.any l (liesC e) = liesC e s := by simpa [eqb] using hany
    have hl := cr_l0 hk he l [] NN true (by simp only [NN]; omega) (by simp; omega) (fun s hs => (List.contains_iff_mem (α := B × B)).1 (List.all_eq_true.1 hall s hs))
    have hz : (([] : List Sp).length : Int) = 0 := rfl
    simp only [List.nil_append, hz, Bool.true_and] at hl
    have hnot : ∀ l' : List (B × B), (l'.all fun s => !(liesC e s)) = !(List.any l' (liesC e)) := fun l' => by simp [List.not_any_eq_all_not]
    have hall' : (l.all fun s => !(liesC e s)) = !(liesC e s) := (hnot l).trans (congrArg not hany)
    rw [hall'] at hl
    have hlie := (lies_eq he hs hk).1
    refine ⟨!(liesC e s), ?_, ?_, fun _ => hk⟩
    · have : route_moves NN (mv k e) = some true := by rcases hk with rfl | rfl <;> rfl
      simp only [route_Crosses, this, Bool.not_true, cond_false]
      simp only [mv] at hlie ⊢
      simp only [h3, h5, hlie]
    · have : ref08_Moves NN (mv k e) = some true := by rcases hk with rfl | rfl <;> rfl
      simp only [ref08_Crosses, h1, this]
      simp only [mv, hl]
  · refine ⟨false, cross_no k4 k5 ps, ?_, fun h => by cases h⟩
    have : ref08_Moves NN m = some false := by simp only [ref08_Moves, k4, k5, cond_false]
    have hl := cr_no m.1 m.2.1 m.2.2.1 m.2.2.2.1.1 m.2.2.2.1.2 m.2.2.2.2.1 m.2.2.2.2.2.1 m.2.2.2.2.2.2 l [] NN (by simp only [NN]; omega) (by simp; omega)
    have hz : (([] : List Sp).length : Int) = 0 := rfl
    simp only [List.nil_append, hz] at hl
    simp only [ref08_Crosses, h1, this, hl]

theorem refFirst_ok {ps : List B} {c : Mg → Bool} {buf : List Mg} (ha : ∀ m ∈ buf, ref08_Crosses NN m ps = some (c m)) (hb : buf.length < 60) :
    ∃ i b, ref09_First NN buf ps = some ((i, b) : Int × Bool) ∧
      (b = false ∧ i = 0 ∧ (∀ j : Int, 0 ≤ j → j < (buf.length : Int) → c (rd T_api_Msg buf j) = false) ∨
       b = true ∧ 0 ≤ i ∧ i < (buf.length : Int) ∧ c (rd T_api_Msg buf i) = true ∧ ∀ j : Int, 0 ≤ j → j < i → c (rd T_api_Msg buf j) = false) := by
  have loop := iter_inv (A := (((List (Ty.T T_api_Msg)) × ((List (List UInt8)) × (Unit × Int))) × ((Int × Bool) × Unit))) (R := ((Unit × ((Int × Bool) × Unit)) ⊕ (Unit × ((Int × Bool) × Unit))))
    (f := fun rec v => ref09_First_l0_step NN (fun b0 b1 b2 b3 b4 => rec ((b0, (b1, ((), b2))), ((b3, b4), ()))) v.1.1 v.1.2.1 v.1.2.2.2 v.2.1.1 v.2.1.2)
    (fun v => v.1.1 = buf ∧ v.1.2.1 = ps ∧ 0 ≤ v.1.2.2.2 ∧ v.1.2.2.2 ≤ (buf.length : Int) ∧ ∀ i : Int, 0 ≤ i → i < v.1.2.2.2 → c (rd T_api_Msg buf i) = false)
    (fun r => match r with
      | .inl r => r.2.1.2 = true ∧ 0 ≤ r.2.1.1 ∧ r.2.1.1 < (buf.length : Int) ∧ c (rd T_api_Msg buf r.2.1.1) = true ∧ ∀ i : Int, 0 ≤ i → i < r.2.1.1 → c (rd T_api_Msg buf i) = false
      | .inr _ => ∀ i : Int, 0 ≤ i → i < (buf.length : Int) → c (rd T_api_Msg buf i) = false)
    (fun v => ((buf.length : Int) - v.1.2.2.2).toNat)
    (by
      rintro rec ⟨⟨b0, b1, u, i⟩, p, _⟩ ⟨rfl, rfl, h4, h5, h6⟩ ih
      simp only at h4 h5 h6 ha hb
      simp only [ref09_First_l0_step]
      cases e1 : decide (i < (b0.length : Int))
      · have e1 := of_decide_eq_false e1
        exact ⟨_, rfl, fun j h0 h1 => h6 j h0 (by omega)⟩
      have e1 := of_decide_eq_true e1
      simp only [cond_true]
      rw [gd_t (inB_t h4 e1)]
      simp only [ha _ (rd_in h4 e1)]
      cases e2 : c (rd T_api_Msg b0 i)
      · simp only [cond_false]
        rw [w64 (by omega) (by omega)]
        exact ih ((b0, b1, (), i + 1), p, ()) ⟨rfl, rfl, by simp only; omega, by simp only; omega, fun j h0 h1 => by
          simp only at h1
          by_cases hj : j < i
          · exact h6 j h0 hj
          · have : j = i := by omega
            subst this; exact e2⟩ (by simp only; omega)
      · exact ⟨_, rfl, rfl, h4, e1, e2, h6⟩)
    NN ((buf, ps, (), 0), (0, false), ()) ⟨rfl, rfl, Int.le_refl _, by simp only; omega, fun i h0 h1 => by simp only at h1; omega⟩ (by simp only [NN]; omega)
  obtain ⟨r, h1, h2⟩ := loop
  simp only [ref09_First, ref09_First_l0, h1]
  cases r with
  | inl r => exact ⟨_, _, rfl, .inr ⟨h2.1, h2.2⟩⟩
  | inr r => exact ⟨_, _, rfl, .inl ⟨rfl, rfl, h2⟩⟩

theorem first_same {ps : List B} (hp : spansOk ps = true) {buf : List Mg} (hg : ∀ m ∈ buf, Good m) (hb : buf.length < 60) : ∃ i b, settle_First NN buf ps = some ((i, b) : Int × Bool) ∧ ref09_First NN buf ps = some ((i, b) : Int × Bool) := by
  let c : Mg → Bool := fun m => (route_Crosses NN m ps).getD false
  have h1 : Answers ps c buf := by
    intro m hm
    obtain ⟨b, h1, _, h2⟩ := cross_same hp (hg m hm)
    refine ⟨by simp only [c, h1, Option.getD_some], fun hb => ?_⟩
    simp only [c, h1, Option.getD_some] at hb
    exact h2 hb
  have h2 : ∀ m ∈ buf, ref08_Crosses NN m ps = some (c m) := by
    intro m hm
    obtain ⟨b, h1, h2, _⟩ := cross_same hp (hg m hm)
    simp only [c, h1, h2, Option.getD_some]
  obtain ⟨r, a1, a2⟩ := index_ok h1 hb
  obtain ⟨i, b, b1, b2⟩ := refFirst_ok h2 hb
  have hf : settle_First NN buf ps = some ((bif decide (r < (0 : Int)) then (0 : Int) else r, decide ((0 : Int) ≤ r)) : Int × Bool) := by
    simp only [settle_First, a1]
  have : ((bif decide (r < (0 : Int)) then (0 : Int) else r, decide ((0 : Int) ≤ r)) : Int × Bool) = (i, b) := by
    rcases a2 with ⟨rfl, a2⟩ | ⟨a2, a3, a4, a5⟩ <;> rcases b2 with ⟨rfl, rfl, b2⟩ | ⟨rfl, b2, b3, b4, b5⟩
    · rfl
    · rw [a2 i b2 b3] at b4; cases b4
    · rw [b2 r a2 a3] at a4; cases a4
    · have : r = i := by
        rcases Int.lt_trichotomy r i with h | h | h
        · rw [b5 r a2 h] at a4; cases a4
        · exact h
        · rw [a5 i b2 h] at b4; cases b4
      subst this
      rw [decide_eq_true a2, decide_eq_false (by omega)]
      rfl
  exact ⟨i, b, by rw [hf, this], b1⟩

theorem same_l0 : ∀ (post pre : List Mg) (n : Nat), post.length < n → (pre ++ post).length < 1000000 → ref06_Same_l0 NN n (pre ++ post) (pre ++ post) (pre.length : Int) = some (.inr ((), ()))
  | [], pre, n + 1, _, _ => by
    show ref06_Same_l0_step NN (fun b0 b1 b2 => ref06_Same_l0 NN n b0 b1 b2) (pre ++ []) (pre ++ []) (pre.length : Int) = _
    simp only [ref06_Same_l0_step, List.append_nil, Int.lt_irrefl, decide_false, cond_false]
  | [], pre, 0, h, _ => absurd h (Nat.not_lt_zero _)
  | q :: post, pre, 0, h, _ => absurd h (Nat.not_lt_zero _)
  | q :: post, pre, n + 1, hn, hl => by
    have ih := same_l0 post (pre ++ [q]) n (by simp at hn; omega) (by simpa using hl)
    have hl' : pre.length < 9223372036854775807 := by simp at hl; omega
    show ref06_Same_l0_step NN (fun b0 b1 b2 => ref06_Same_l0 NN n b0 b1 b2) (pre ++ q :: post) (pre ++ q :: post) (pre.length : Int) = _
    have key : ∀ (a : Int) (b c d e f g : B) (h : Int), (!(eqi a a && (eqs b b && (eqs c c && (eqs d d && (eqs e e && (eqs f f && (eqs g g && (eqi h h && true))))))))) = false := by
      intros; simp
    simp only [ref06_Same_l0_step, lt_mid, in_mid, cond_true, rd_mid]
    rw [gd_t rfl, gd_t rfl]
    refine (bif_f (key _ _ _ _ _ _ _ _)).trans ?_
    rw [wr_mid (q := q) hl', app_mid (pre := pre) (q := q) (post := post)]
    exact ih

theorem same_ok (l : List Mg) (h : l.length < 60) : ref06_Same NN l l = some true := by
  have := same_l0 l [] NN (by simp only [NN]; omega) (by simp; omega)
  have hz : (([] : List Mg).length : Int) = 0 := rfl
  simp only [List.nil_append, hz] at this
  simp only [ref06_Same, eqi_self, Bool.not_true, cond_false, this]

theorem cut_all (s : B) (n : Nat) : cut2 s (n : Int) (s.length : Int) = List.drop n s := by
  simp only [cut2, Int.toNat_natCast]
  exact List.take_of_length_le (by simp)
theorem len_cut {s t : B} {n : Nat} (h : s.length ≤ 100) (h' : t.length ≤ 100) : decide (List.length s + List.length (List.drop n t) < maxB) = true := by
  simp only [maxB, List.length_drop, decide_eq_true_eq]; omega
theorem bd_cut {s : B} {n : Nat} (h : n ≤ s.length) : (decide (0 ≤ (n : Int)) && (decide ((n : Int) ≤ (s.length : Int)) && decide ((s.length : Int) ≤ (s.length : Int)))) = true := by
  simp; omega

theorem refList_l0 (k : Int) (e : B × B) (he : e ∈ ends) : ∀ (post pre : List Pr) (n : Nat) (out : List Mg), post.length < n → (pre ++ post).length < 1000000 → out.length + post.length < 1000000 → (∀ p ∈ post, PairOk p ∧ hasB (preB e.1) p.1 = true) →
    ref09_List_l0 NN n (pre ++ post) (pre.length : Int) k [] [] [] [] e.1 e.2 0 out = some (((), ()), ((k, ([], ([], ([], ([], (e.1, (e.2, 0))))))), (out ++ post.map (putM e), ())))
  | [], pre, n + 1, out, _, _, _, _ => by
    show ref09_List_l0_step NN (fun b0 b1 b2 b3 b4 b5 b6 b7 b8 b9 b10 => ref09_List_l0 NN n b0 b1 b2 b3 b4 b5 b6 b7 b8 b9 b10) (pre ++ []) (pre.length : Int) k [] [] [] [] e.1 e.2 0 out = _
    simp only [ref09_List_l0_step, List.append_nil, Int.lt_irrefl, decide_false, cond_false, List.map_nil]
  | [], pre, 0, out, h, _, _, _ => absurd h (Nat.not_lt_zero _)
  | q :: post, pre, 0, out, h, _, _, _ => absurd h (Nat.not_lt_zero _)
  | q :: post, pre, n + 1, out, hn, hl, ho, hq => by
    have ih := fun out => refList_l0 k e he post (pre ++ [q]) n out (by simp at hn; omega) (by simpa using hl)
    have hl' : pre.length < 9223372036854775807 := by simp at hl; omega
    simp only [List.length_cons] at ho
    obtain ⟨h1, h2⟩ := hq q (by simp)
    have hm := (moved_ok he h1.1 h2).2
    have hk : q.1.length ≤ 100 := by
      have : (tkeys.all fun k => Nat.ble k.length 100) = true := by decide +kernel
      exact Nat.le_of_ble_eq_true (List.all_eq_true.1 this q.1 h1.1)
    have hk2 : e.2.length ≤ 100 := by
      have : (paths.all fun k => Nat.ble k.length 100) = true := by decide +kernel
      exact Nat.le_of_ble_eq_true (List.all_eq_true.1 this e.2 (ends_path he).2)
    have hc : cut2 q.1 (e.1.length : Int) (List.length q.1 : Int) = List.drop e.1.length q.1 := cut_all q.1 e.1.length
    show ref09_List_l0_step NN (fun b0 b1 b2 b3 b4 b5 b6 b7 b8 b9 b10 => ref09_List_l0 NN n b0 b1 b2 b3 b4 b5 b6 b7 b8 b9 b10) (pre ++ q :: post) (pre.length : Int) k [] [] [] [] e.1 e.2 0 out = _
    simp only [ref09_List_l0_step, lt_mid, in_mid, cond_true, rd_mid, hc]
    rw [gd_t rfl, gd_t (bd_cut hm), gd_t (len_cut hk2 hk), gd_t (fits_p (by show out.length + 1 < 4294967296; omega) (by omega)), wr_mid (q := q) hl', app_mid (pre := pre) (q := q) (post := post)]
    refine (ih (out ++ [putM e q]) (by simp; omega) (fun p hp => hq p (by simp [hp]))).trans ?_
    simp [List.append_assoc]

theorem refList_ok {k : Int} (hk : k = 4 ∨ k = 5) {e : B × B} (he : e ∈ ends) {src : List Pr} (hs : Src e src) : ref09_List NN (mv k e) src = some (settleL k e src) := by
  have hm : ref09_moves NN (mv k e) = some true := by rcases hk with rfl | rfl <;> rfl
  have h1 := (pre_ok (ends_path he).1).2
  have h2 := (pre_ok (ends_path he).2).2
  have hl := refList_l0 k e he src [] NN [dropM e.2] (by have := hs.1; simp only [NN]; omega) (by have := hs.1; simp; omega) (by have := hs.1; simp; omega) hs.2
  have hz : (([] : List Pr).length : Int) = 0 := rfl
  simp only [List.nil_append, hz] at hl
  have hl' : ref09_List_l0 NN NN src 0 k [] [] [] [] e.1 e.2 0 ([((3 : Int), (([] : List UInt8), (([] : List UInt8), (preB e.2, (([] : List UInt8), (([] : List UInt8), (0 : Int)))))))] : List (Ty.T T_api_Msg)) = _ := hl
  simp only [ref09_List, hm, Bool.not_true, cond_false]
  simp only [mv, h2, hl']
  have := hs.1
  cases e4 : eqi k 4
  · simp only [cond_false, settleL, e4]; simp
  · simp only [cond_true, h1]
    rw [gd_t (fits_p (by show ([dropM e.2] ++ src.map (putM e)).length + 1 < 4294967296; simp; omega) (by omega))]
    simp only [settleL, e4, cond_true]
    rfl

theorem refList_no {m : Mg} (h4 : eqi m.1 4 = false) (h5 : eqi m.1 5 = false) (src : List Pr) : ref09_List NN m src = some [m] := by
  simp only [ref09_List, ref09_moves, h4, h5, cond_false, Bool.not_false, cond_true]

/-! turns -/
theorem concat2 (a b : List Mg) (ha : a.length < 1000) (hb : b.length < 1000) : slices_Concat_s_api_Msg_api_Msg NN [a, b] = some (a ++ b) := by
  have r0 : rd (.list T_api_Msg) [a, b] 0 = a := rfl
  have r1 : rd (.list T_api_Msg) [a, b] 1 = b := rfl
  have w1 : IntKind.wrap .i64 ((0 : Int) + (1 : Int)) = 1 := rfl
  have w2 : IntKind.wrap .i64 ((1 : Int) + (1 : Int)) = 2 := rfl
  have l2 : (List.length ([a, b] : List (List Mg)) : Int) = 2 := rfl
  have i0 : inB (0 : Int) (List.length ([a, b] : List (List Mg))) = true := rfl
  have i1 : inB (1 : Int) (List.length ([a, b] : List (List Mg))) = true := rfl
  have e0 : IntKind.wrap .i64 ((0 : Int) + (a.length : Int)) = (a.length : Int) := by rw [w64 (by omega) (by omega)]; omega
  have e1 : IntKind.wrap .i64 ((a.length : Int) + (b.length : Int)) = (a.length : Int) + (b.length : Int) := w64 (by omega) (by omega)
  have s3 : ∀ (n : Nat) (c : Int) (l m : List (List Mg)), slices_Concat_s_api_Msg_api_Msg_l0 NN (n + 1) l c m 2 2 = some ((l, c), ()) := fun n c l m => rfl
  have s2 : ∀ (n : Nat), slices_Concat_s_api_Msg_api_Msg_l0 NN (n + 2) [a, b] (a.length : Int) [a, b] 2 1 = some (([a, b], (a.length : Int) + (b.length : Int)), ()) := by
    intro n
    show slices_Concat_s_api_Msg_api_Msg_l0_step NN (fun b0 b1 b2 b3 b4 => slices_Concat_s_api_Msg_api_Msg_l0 NN (n + 1) b0 b1 b2 b3 b4) [a, b] (a.length : Int) [a, b] 2 1 = _
    simp only [slices_Concat_s_api_Msg_api_Msg_l0_step, i1, show decide ((1 : Int) < 2) = true from rfl, cond_true]
    rw [gd_t rfl]
    show (bif decide (IntKind.wrap .i64 ((a.length : Int) + (b.length : Int)) < (0 : Int)) then none else slices_Concat_s_api_Msg_api_Msg_l0 NN (n + 1) [a, b] (IntKind.wrap .i64 ((a.length : Int) + (b.length : Int))) [a, b] 2 (IntKind.wrap .i64 ((1 : Int) + (1 : Int)))) = _
    rw [e1, w2, decide_eq_false (show ¬ (a.length : Int) + (b.length : Int) < 0 by omega)]
    exact s3 n _ _ _
  have s1 : ∀ (n : Nat), slices_Concat_s_api_Msg_api_Msg_l0 NN (n + 3) [a, b] 0 [a, b] 2 0 = some (([a, b], (a.length : Int) + (b.length : Int)), ()) := by
    intro n
    show slices_Concat_s_api_Msg_api_Msg_l0_step NN (fun b0 b1 b2 b3 b4 => slices_Concat_s_api_Msg_api_Msg_l0 NN (n + 2) b0 b1 b2 b3 b4) [a, b] 0 [a, b] 2 0 = _
    simp only [slices_Concat_s_api_Msg_api_Msg_l0_step, i0, show decide ((0 : Int) < 2) = true from rfl, cond_true]
    rw [gd_t rfl]
    show (bif decide (IntKind.wrap .i64 ((0 : Int) + (a.length : Int)) < (0 : Int)) then none else slices_Concat_s_api_Msg_api_Msg_l0 NN (n + 2) [a, b] (IntKind.wrap .i64 ((0 : Int) + (a.length : Int))) [a, b] 2 (IntKind.wrap .i64 ((0 : Int) + (1 : Int)))) = _
    rw [e0, w1, decide_eq_false (show ¬ (a.length : Int) < 0 by omega)]
    exact s2 n
  have t3 : ∀ (n : Nat) (c : List Mg) (l : List (List Mg)), slices_Concat_s_api_Msg_api_Msg_l1 NN (n + 1) l 2 2 c = some ((), (c, ())) := fun n c l => rfl
  have t2 : ∀ (n : Nat), slices_Concat_s_api_Msg_api_Msg_l1 NN (n + 2) [a, b] 2 1 a = some ((), (a ++ b, ())) := by
    intro n
    show slices_Concat_s_api_Msg_api_Msg_l1_step NN (fun b0 b1 b2 b3 => slices_Concat_s_api_Msg_api_Msg_l1 NN (n + 1) b0 b1 b2 b3) [a, b] 2 1 a = _
    simp only [slices_Concat_s_api_Msg_api_Msg_l1_step, i1, show decide ((1 : Int) < 2) = true from rfl, cond_true]
    rw [gd_t rfl]
    refine (gd_t (show fits (a.length + b.length) 112 = true from fits_p (by omega) (by omega)) _).trans ?_
    show slices_Concat_s_api_Msg_api_Msg_l1 NN (n + 1) [a, b] 2 (IntKind.wrap .i64 ((1 : Int) + (1 : Int))) (a ++ b) = _
    rw [w2]
    exact t3 n _ _
  have t1 : ∀ (n : Nat), slices_Concat_s_api_Msg_api_Msg_l1 NN (n + 3) [a, b] 2 0 [] = some ((), (a ++ b, ())) := by
    intro n
    show slices_Concat_s_api_Msg_api_Msg_l1_step NN (fun b0 b1 b2 b3 => slices_Concat_s_api_Msg_api_Msg_l1 NN (n + 2) b0 b1 b2 b3) [a, b] 2 0 [] = _
    simp only [slices_Concat_s_api_Msg_api_Msg_l1_step, i0, show decide ((0 : Int) < 2) = true from rfl, cond_true]
    rw [gd_t rfl]
    refine (gd_t (show fits (0 + a.length) 112 = true from fits_p (by omega) (by omega)) _).trans ?_
    show slices_Concat_s_api_Msg_api_Msg_l1 NN (n + 2) [a, b] 2 (IntKind.wrap .i64 ((0 : Int) + (1 : Int))) a = _
    rw [w1]
    exact t2 n
  have g : slices_Grow_s_api_Msg_api_Msg_nil NN ((a.length : Int) + (b.length : Int)) = some [] := by
    simp only [slices_Grow_s_api_Msg_api_Msg_nil]
    exact gd_t (by rw [decide_eq_true (show (0 : Int) ≤ (a.length : Int) + (b.length : Int) by omega), fits_p (by omega) (by omega)]; rfl) _
  simp only [slices_Concat_s_api_Msg_api_Msg, l2]
  have s1' : slices_Concat_s_api_Msg_api_Msg_l0 NN NN [a, b] 0 [a, b] 2 0 = _ := s1 61
  have t1' : slices_Concat_s_api_Msg_api_Msg_l1 NN NN [a, b] 2 0 [] = _ := t1 61
  simp only [s1', g, l2, t1']

/-- what a turn makes of a buffer -/
theorem turn_no {buf : List Mg} (h : buf = [] ∨ ∃ m r, buf = m :: r ∧ eqi m.1 4 = false ∧ eqi m.1 5 = false) (src : List Pr) : settle_Turn NN buf src = some ([], 50) ∧ ref09_Turn NN buf src = some ([], 50) := by
  rcases h with rfl | ⟨m, r, rfl, h4, h5⟩
  · exact ⟨rfl, rfl⟩
  · have z : eqi (List.length (m :: r) : Int) 0 = false := eqi_ne (by simp; try omega)
    have i0 : inB (0 : Int) (List.length (m :: r)) = true := inB_t (by omega) (by simp; try omega)
    have e : rd T_api_Msg (m :: r) 0 = m := rfl
    have m1 : settle_moves NN m = some false := by simp only [settle_moves, h4, h5, cond_false]
    have m2 : ref09_moves NN m = some false := by simp only [ref09_moves, h4, h5, cond_false]
    simp only [settle_Turn, ref09_Turn, z, cond_false, i0, e, m1, m2, Bool.not_false, cond_true]
    exact ⟨gd_t rfl _, gd_t rfl _⟩

theorem turn_ok {k : Int} (hk : k = 4 ∨ k = 5) {e : B × B} (he : e ∈ ends) {src : List Pr} (hs : Src e src) {r : List Mg} (hr : r.length < 60) :
    settle_Turn NN (mv k e :: r) src = some (settleL k e src ++ r, 0) ∧ ref09_Turn NN (mv k e :: r) src = some (settleL k e src ++ r, 0) := by
  have z : eqi (List.length (mv k e :: r) : Int) 0 = false := eqi_ne (by simp; try omega)
  have i0 : inB (0 : Int) (List.length (mv k e :: r)) = true := inB_t (by omega) (by simp; try omega)
  have e0 : rd T_api_Msg (mv k e :: r) 0 = mv k e := rfl
  have m1 : settle_moves NN (mv k e) = some true := by rcases hk with rfl | rfl <;> rfl
  have m2 : ref09_moves NN (mv k e) = some true := by rcases hk with rfl | rfl <;> rfl
  have h1 := settle_ok hk he hs
  have h2 := refList_ok hk he hs
  have hlen : (settleL k e src).length < 60 := by
    have := hs.1
    rw [settleL_len]; cases eqi k 4 <;> simp <;> omega
  have hc : cut2 (mv k e :: r) (1 : Int) (List.length (mv k e :: r) : Int) = r := by
    simp [cut2]
  have hb : (decide (0 ≤ (1 : Int)) && (decide ((1 : Int) ≤ (List.length (mv k e :: r) : Int)) && decide ((List.length (mv k e :: r) : Int) ≤ (List.length (mv k e :: r) : Int)))) = true := by
    simp; omega
  have hcc := concat2 (settleL k e src) r (by omega) (by omega)
  constructor
  · simp only [settle_Turn, z, cond_false, i0, e0, m1, Bool.not_true, h1, hc, hcc]
    rw [gd_t rfl, gd_t rfl, gd_t hb]
  · simp only [ref09_Turn, z, cond_false, i0, e0, m2, Bool.not_true, h2, hc]
    rw [gd_t rfl, gd_t rfl, gd_t hb, gd_t (fits_p (by omega) (by omega))]

/-- what is settled, and by the reference -/
theorem settled_same {t : List Pr} (hl : t.length ≤ 40) (ht : ∀ p ∈ t, PairOk p) {m : Mg} (hm : Good m) :
    ∃ src l, law09_source NN t m = some src ∧ settle_List NN m src = some l ∧ ref09_List NN m src = some l ∧ l.length < 60 := by
  rcases good_kind hm with ⟨k, e, rfl, hk, he⟩ | ⟨k4, k5⟩
  · obtain ⟨src, h1, h2⟩ := source_ok hl ht hk he
    refine ⟨src, _, h1, settle_ok hk he h2, refList_ok hk he h2, ?_⟩
    have := h2.1
    rw [settleL_len]; cases eqi k 4 <;> simp <;> omega
  · exact ⟨[], _, source_no k4 k5, settle_no k4 k5 _, refList_no k4 k5 _, by simp⟩

theorem main_l0 {w : Int} {b : Bool} {i : Int} {c : Bool} {t : List Pr} (hl : t.length ≤ 40) (ht : ∀ p ∈ t, PairOk p) : ∀ (post pre : List Mg) (n : Nat), post.length < n → (pre ++ post).length < 1000000 → (∀ m ∈ post, Good m) →
    law09_SettleMatchesReference_l0 NN n w b i c (pre.length : Int) t (pre ++ post) = some (.inr ((w, (b, ((), ((), (i, c))))), (t, (pre ++ post, ()))))
  | [], pre, n + 1, _, _, _ => by
    show law09_SettleMatchesReference_l0_step NN (fun b0 b1 b2 b3 b4 b5 b6 => law09_SettleMatchesReference_l0 NN n b0 b1 b2 b3 b4 b5 b6) w b i c (pre.length : Int) t (pre ++ []) = _
    simp only [law09_SettleMatchesReference_l0_step, List.append_nil, Int.lt_irrefl, decide_false, cond_false]
  | [], pre, 0, h, _, _ => absurd h (Nat.not_lt_zero _)
  | q :: post, pre, 0, h, _, _ => absurd h (Nat.not_lt_zero _)
  | q :: post, pre, n + 1, hn, hlen, hq => by
    have ih := main_l0 (w := w) (b := b) (i := i) (c := c) hl ht post (pre ++ [q]) n (by simp at hn; omega) (by simpa using hlen) (fun m hm => hq m (by simp [hm]))
    have hl' : pre.length < 9223372036854775807 := by simp at hlen; omega
    obtain ⟨src, l, h1, h2, h3, h4⟩ := settled_same hl ht (hq q (by simp))
    rw [← app_mid (pre := pre) (q := q) (post := post)] at ih
    show law09_SettleMatchesReference_l0_step NN (fun b0 b1 b2 b3 b4 b5 b6 => law09_SettleMatchesReference_l0 NN n b0 b1 b2 b3 b4 b5 b6) w b i c (pre.length : Int) t (pre ++ q :: post) = _
    simp only [law09_SettleMatchesReference_l0_step, lt_mid, in_mid, cond_true, getD_mid, h1, h2, h3, same_ok l h4, Bool.not_true, cond_false]
    rw [gd_t rfl, gd_t rfl, gd_t rfl, gd_t rfl, wr_mid (q := q) hl']
    exact ih

theorem plainMatches (x : List (Ty.T T_ref04_Raw)) (y : List (Ty.T T_ref05_Raw)) (w : Int) (hx : okT (.list T_ref04_Raw) x) (hy : okT (.list T_ref05_Raw) y) (hw : (Lit.int .u8 w).wf = true) : law09_SettleMatchesReference NN x y w = some true := by
  obtain ⟨w0, w1⟩ := u8_of_wf hw
  obtain ⟨t, h1, h2, h3⟩ := tab_ok hx
  obtain ⟨buf, h4, h5, h6⟩ := list_ok hy (k := 8) ⟨by decide, by decide⟩
  obtain ⟨ps, h7, h8⟩ := spans_ok w0 w1
  have hb : buf.length < 60 := by omega
  obtain ⟨i, b, f1, f2⟩ := first_same h8 h6 hb
  have hl := main_l0 (w := w) (b := true) (i := i) (c := b) h2 h3 buf [] NN (by simp only [NN]; omega) (by simp only [List.nil_append]; omega) h6
  have hz : (([] : List Mg).length : Int) = 0 := rfl
  simp only [List.nil_append, hz] at hl
  simp only [law09_SettleMatchesReference, sanity_ok, h1, h4, h7, f1, hl]
  cases buf with
  | nil =>
    obtain ⟨t1, t2⟩ := turn_no (buf := []) (.inl rfl) []
    have hs := same_ok [] (by simp)
    have n0 : decide ((0 : Int) < (List.length ([] : List Mg) : Int)) = false := rfl
    simp only [n0, cond_false, t1, t2, h7, f2, hs, cond_true]
    simp [eqb, eqi]
  | cons m r =>
    have n0 : decide ((0 : Int) < (List.length (m :: r) : Int)) = true := by simp; try omega
    have i0 : inB (0 : Int) (List.length (m :: r)) = true := inB_t (by omega) (by simp; try omega)
    have g0 : List.getD (m :: r) (Int.toNat (0 : Int)) (Ty.dflt T_api_Msg) = m := rfl
    have hr : r.length < 10 := by simp at h5; omega
    have key : ∃ (src : List Pr) (l : List Mg) (z : Int), law09_source NN t m = some src ∧ settle_Turn NN (m :: r) src = some ((l, z) : List Mg × Int) ∧ ref09_Turn NN (m :: r) src = some ((l, z) : List Mg × Int) ∧ l.length < 60 := by
      rcases good_kind (h6 m (by simp)) with ⟨k, e, rfl, hk, he⟩ | ⟨k4, k5⟩
      · obtain ⟨src, a1, a2⟩ := source_ok h2 h3 hk he
        obtain ⟨t1, t2⟩ := turn_ok hk he a2 (r := r) (by omega)
        refine ⟨src, _, _, a1, t1, t2, ?_⟩
        have := a2.1
        rw [List.length_append, settleL_len]; cases eqi k 4 <;> simp <;> omega
      · obtain ⟨t1, t2⟩ := turn_no (buf := m :: r) (.inr ⟨m, r, rfl, k4, k5⟩) []
        exact ⟨[], [], 50, source_no k4 k5, t1, t2, by simp⟩
    obtain ⟨src, l, z, a1, t1, t2, hlen⟩ := key
    have hs := same_ok l hlen
    simp only [n0, cond_true, i0, g0, a1, t1, t2, h7, f2, hs]
    rw [gd_t rfl]
    simp [eqb, eqi]
end Ds
