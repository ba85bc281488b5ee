/- What settling makes of a made message. -/
import Derived.Test.YtfecapegkdpbhaaGreatDsTables
set_option linter.all false
namespace Ds
open Go Go.Dv
set_option maxRecDepth 100000
set_option linter.unusedVariables false

abbrev Mg := Ty.T T_api_Msg
def mv (k : Int) (e : B × B) : Mg := (k, ([] : B), ([] : B), (([] : B), ([] : B)), e.1, e.2, (0 : Int))
def preB (p : B) : B × B := (p, p.dropLast ++ [48])
def dropM (p : B) : Mg := ((3 : Int), ([] : B), ([] : B), preB p, ([] : B), ([] : B), (0 : Int))
def putM (e : B × B) (p : Pr) : Mg := ((1 : Int), e.2 ++ List.drop e.1.length p.1, p.2.1, (([] : B), ([] : B)), ([] : B), ([] : B), p.2.2)
def settleL (k : Int) (e : B × B) (src : List Pr) : List Mg := dropM e.2 :: (src.map (putM e) ++ bif eqi k 4 then [dropM e.1] else [])

theorem ends_path {e : B × B} (he : e ∈ ends) : e.1 ∈ paths ∧ e.2 ∈ paths := by
  have h : (ends.all fun e => paths.contains e.1 && paths.contains e.2) = true := by decide +kernel
  have := List.all_eq_true.1 h e he
  simpa using this

theorem pre_ok {p : B} (hp : p ∈ paths) : span_Prefix NN p = some (preB p) ∧ ref02_Prefix NN p = some (preB p) := by
  have h : (paths.all fun p => okO (span_Prefix NN p) fun s => okO (ref02_Prefix NN p) fun t => eqs s.1 (preB p).1 && eqs s.2 (preB p).2 && eqs t.1 (preB p).1 && eqs t.2 (preB p).2) = true := by decide +kernel
  obtain ⟨s, h1, h2⟩ := okO_some (List.all_eq_true.1 h p hp)
  obtain ⟨t, h3, h4⟩ := okO_some h2
  simp only [Bool.and_eq_true] at h4
  obtain ⟨⟨⟨e1, e2⟩, e3⟩, e4⟩ := h4
  rw [h1, h3]
  exact ⟨congrArg some (Prod.ext (eqs_iff.1 e1) (eqs_iff.1 e2)), congrArg some (Prod.ext (eqs_iff.1 e3) (eqs_iff.1 e4))⟩

theorem moved_ok {e : B × B} (he : e ∈ ends) {k : B} (hk : k ∈ tkeys) (h : hasB (preB e.1) k = true) : span_Moved NN k e.1 e.2 = some (e.2 ++ List.drop e.1.length k, true) ∧ e.1.length ≤ k.length := by
  have hh : (ends.all fun e => tkeys.all fun k => bif hasB (preB e.1) k then okO (span_Moved NN k e.1 e.2) fun r => eqs r.1 (e.2 ++ List.drop e.1.length k) && r.2 && Nat.ble e.1.length k.length else true) = true := by decide +kernel
  have := List.all_eq_true.1 (List.all_eq_true.1 hh e he) k hk
  rw [h] at this
  obtain ⟨r, h1, h2⟩ := okO_some this
  simp only [Bool.and_eq_true] at h2
  rw [h1]
  exact ⟨congrArg some (Prod.ext (eqs_iff.1 h2.1.1) h2.1.2), Nat.le_of_ble_eq_true h2.2⟩

/-- the pairs that a move moves -/
def Src (e : B × B) (src : List Pr) : Prop := src.length ≤ 40 ∧ ∀ p ∈ src, PairOk p ∧ hasB (preB e.1) p.1 = true

theorem source_ok {t : List Pr} (hl : t.length ≤ 40) (ht : ∀ p ∈ t, PairOk p) {k : Int} (hk : k = 4 ∨ k = 5) {e : B × B} (he : e ∈ ends) : ∃ src, law09_source NN t (mv k e) = some src ∧ Src e src := by
  have hp := (pre_ok (ends_path he).1).2
  have hr := range_ok NN (preB e.1) t (by simp only [NN]; omega) (by omega)
  refine ⟨t.filter (fun p => hasB (preB e.1) p.1), ?_, Nat.le_trans (List.length_filter_le _ _) hl, fun p hp => ?_⟩
  · rcases hk with rfl | rfl
    · simp only [law09_source, mv, eqi_self, Bool.not_true, cond_false, hp, hr]
    · have : eqi (5 : Int) 4 = false := by decide
      simp only [law09_source, mv, eqi_self, Bool.not_true, cond_false, this, Bool.not_false, cond_true, hp, hr]
  · have := List.mem_filter.1 hp
    exact ⟨ht _ this.1, this.2⟩

theorem source_no {t : List Pr} {m : Mg} (h4 : eqi m.1 4 = false) (h5 : eqi m.1 5 = false) : law09_source NN t m = some [] := by
  simp only [law09_source, h4, h5, Bool.not_false, cond_true]

theorem settled_l0 (k : Int) (e : B × B) (he : e ∈ ends) : ∀ (post pre : List Pr) (n : Nat) (out : List Mg), post.length < n → (pre ++ post).length < 1000000 → out.length + post.length < 1000000 → (∀ p ∈ post, PairOk p ∧ hasB (preB e.1) p.1 = true) →
    settle_settled_c1_m_l0 NN n k [] [] [] [] e.1 e.2 0 (pre ++ post) ((pre ++ post).length : Int) (pre.length : Int) out =
      some (((), (k, ([], ([], ([], ([], (e.1, (e.2, 0)))))))), ((), ((), (out ++ post.map (putM e), ()))))
  | [], pre, n + 1, out, _, _, _, _ => by
    show settle_settled_c1_m_l0_step NN (fun b0 b1 b2 b3 b4 b5 b6 b7 b8 b9 b10 b11 => settle_settled_c1_m_l0 NN n b0 b1 b2 b3 b4 b5 b6 b7 b8 b9 b10 b11) k [] [] [] [] e.1 e.2 0 (pre ++ []) ((pre ++ ([] : List Pr)).length : Int) (pre.length : Int) out = _
    simp only [settle_settled_c1_m_l0_step, List.append_nil, Int.lt_irrefl, decide_false, cond_false, List.map_nil]
  | [], pre, 0, out, h, _, _, _ => absurd h (Nat.not_lt_zero _)
  | q :: post, pre, 0, out, h, _, _, _ => absurd h (Nat.not_lt_zero _)
  | q :: post, pre, n + 1, out, hn, hl, ho, hq => by
    have ih := fun out => settled_l0 k e he post (pre ++ [q]) n out (by simp at hn; omega) (by simpa using hl)
    have hl' : pre.length < 9223372036854775807 := by simp at hl; omega
    simp only [List.length_cons] at ho
    obtain ⟨h1, h2⟩ := hq q (by simp)
    have hm := (moved_ok he h1.1 h2).1
    show settle_settled_c1_m_l0_step NN (fun b0 b1 b2 b3 b4 b5 b6 b7 b8 b9 b10 b11 => settle_settled_c1_m_l0 NN n b0 b1 b2 b3 b4 b5 b6 b7 b8 b9 b10 b11) k [] [] [] [] e.1 e.2 0 (pre ++ q :: post) ((pre ++ q :: post).length : Int) (pre.length : Int) out = _
    have hr : settle_List_round0 NN (1 : Int) (e.2 ++ List.drop e.1.length q.1) q.2.1 ([] : List UInt8) ([] : List UInt8) ([] : List UInt8) ([] : List UInt8) q.2.2 out = some ((), ((), (out ++ [putM e q], ()))) := by
      simp only [settle_List_round0]
      rw [gd_t (fits_p (by show out.length + 1 < 4294967296; omega) (by omega))]
      rfl
    simp only [settle_settled_c1_m_l0_step, lt_mid, in_mid, cond_true, rd_mid, hm, hr]
    rw [gd_t rfl, wr_mid (q := q) hl', app_mid]
    refine (ih (out ++ [putM e q]) (by simp; omega) (fun p hp => hq p (by simp [hp]))).trans ?_
    simp [List.append_assoc]

theorem settle_ok {k : Int} (hk : k = 4 ∨ k = 5) {e : B × B} (he : e ∈ ends) {src : List Pr} (hs : Src e src) : settle_List NN (mv k e) src = some (settleL k e src) := by
  have hm : settle_moves NN (mv k e) = some true := by
    rcases hk with rfl | rfl <;> rfl
  have h1 := (pre_ok (ends_path he).1).1
  have h2 := (pre_ok (ends_path he).2).1
  have hl := settled_l0 k e he src [] NN [dropM e.2] (by have := hs.1; simp only [NN]; omega) (by have := hs.1; simp; omega) (by have := hs.1; simp; omega) hs.2
  simp only [List.nil_append, List.length_nil] at hl
  have g1 : settle_List_round0 NN (3 : Int) ([] : List UInt8) ([] : List UInt8) (preB e.2).1 (preB e.2).2 ([] : List UInt8) ([] : List UInt8) (0 : Int) [] = some ((), ((), ([dropM e.2], ()))) := by
    simp only [settle_List_round0]
    rw [gd_t (fits_p (by show 0 + 1 < 4294967296; omega) (by omega))]
    rfl
  have g2 : settle_List_round0 NN (3 : Int) ([] : List UInt8) ([] : List UInt8) (preB e.1).1 (preB e.1).2 ([] : List UInt8) ([] : List UInt8) (0 : Int) ([dropM e.2] ++ src.map (putM e)) = some ((), ((), ([dropM e.2] ++ src.map (putM e) ++ [dropM e.1], ()))) := by
    have := hs.1
    simp only [settle_List_round0]
    rw [gd_t (fits_p (by show ([dropM e.2] ++ src.map (putM e)).length + 1 < 4294967296; simp; omega) (by omega))]
    rfl
  have hz : ((0 : Nat) : Int) = 0 := rfl
  rw [hz] at hl
  have c1 : settle_settled_c1_m NN k [] [] [] [] e.1 e.2 0 src [] = some ((), ((), ((), (settleL k e src, ())))) := by
    simp only [settle_settled_c1_m, h2, g1, hl]
    cases e4 : eqi k 4
    · simp only [cond_false, settleL, e4]; simp
    · simp only [cond_true, h1, g2, settleL, e4]; simp
  simp only [settle_List, hm, Bool.not_true, cond_false, settle_settled, settle_List_g0]
  simp only [mv, c1]

theorem settle_no {m : Mg} (h4 : eqi m.1 4 = false) (h5 : eqi m.1 5 = false) (src : List Pr) : settle_List NN m src = some [m] := by
  simp only [settle_List, settle_moves, h4, h5, cond_false, Bool.not_false, cond_true]
end Ds
