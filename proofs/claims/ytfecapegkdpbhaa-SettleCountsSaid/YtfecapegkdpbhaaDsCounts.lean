/- The plain law of SettleCounts. -/
import Derived.Test.YtfecapegkdpbhaaDsCrosses
set_option linter.all false
namespace Ds
open Go Go.Dv
set_option maxRecDepth 100000
set_option linter.unusedVariables false

theorem cut_all (s : B) (n : Nat) : cut2 s (n : Int) (s.length : Int) = List.drop n s := by
  simp only [cut2, Int.toNat_natCast]
  exact List.take_of_length_le (by simp)
theorem len_cut {s t : B} {n : Nat} (h : s.length ≤ 100) (h' : t.length ≤ 100) : decide (List.length s + List.length (List.drop n t) < maxB) = true := by
  simp only [maxB, List.length_drop, decide_eq_true_eq]; omega
theorem bd_cut {s : B} {n : Nat} (h : n ≤ s.length) : (decide (0 ≤ (n : Int)) && (decide ((n : Int) ≤ (s.length : Int)) && decide ((s.length : Int) ≤ (s.length : Int)))) = true := by
  simp; omega

theorem counts_l1 {k : Int} {e : B × B} {he : e ∈ ends} {b : Bool} {more : Int} (tail : List Mg) : ∀ (post pre : List Pr) (n : Nat) (d : Mg), post.length < n → (pre ++ post).length < 1000000 → (∀ p ∈ post, PairOk p ∧ hasB (preB e.1) p.1 = true) →
    law09_SettleCounts_l1 NN n b more (pre.length : Int) k [] [] [] [] e.1 e.2 0 (pre ++ post) (d :: ((pre ++ post).map (putM e) ++ tail)) = some (.inr ((b, ((), more)), (d :: ((pre ++ post).map (putM e) ++ tail), ())))
  | [], pre, n + 1, d, _, _, _ => by
    show law09_SettleCounts_l1_step NN (fun b0 b1 b2 b3 b4 b5 b6 b7 b8 b9 b10 b11 b12 => law09_SettleCounts_l1 NN n b0 b1 b2 b3 b4 b5 b6 b7 b8 b9 b10 b11 b12) b more (pre.length : Int) k [] [] [] [] e.1 e.2 0 (pre ++ []) (d :: ((pre ++ ([] : List Pr)).map (putM e) ++ tail)) = _
    simp only [law09_SettleCounts_l1_step, List.append_nil, Int.lt_irrefl, decide_false, cond_false]
  | [], pre, 0, d, h, _, _ => absurd h (Nat.not_lt_zero _)
  | q :: post, pre, 0, d, h, _, _ => absurd h (Nat.not_lt_zero _)
  | q :: post, pre, n + 1, d, hn, hl, hq => by
    have ih := counts_l1 (k := k) (he := he) (b := b) (more := more) tail post (pre ++ [q]) n d (by simp at hn; omega) (by simpa using hl) (fun m hm => hq m (by simp [hm]))
    have hl' : pre.length < 9223372036854775807 := by simp at hl; omega
    obtain ⟨h1, h2⟩ := hq q (by simp)
    have hm := (moved_ok he h1.1 h2).2
    have hk : q.1.length ≤ 100 := by
      have : (tkeys.all fun k => Nat.ble k.length 100) = true := by decide +kernel
      exact Nat.le_of_ble_eq_true (List.all_eq_true.1 this q.1 h1.1)
    have hk2 : e.2.length ≤ 100 := by
      have : (paths.all fun k => Nat.ble k.length 100) = true := by decide +kernel
      exact Nat.le_of_ble_eq_true (List.all_eq_true.1 this e.2 (ends_path he).2)
    rw [← app_mid] at ih
    have hi : IntKind.wrap .i64 ((1 : Int) + (pre.length : Int)) = ((pre.length + 1 : Nat) : Int) := by
      rw [w64 (by omega) (by omega)]; omega
    have hin : inB ((pre.length + 1 : Nat) : Int) (d :: ((pre ++ q :: post).map (putM e) ++ tail)).length = true := inB_t (by omega) (by simp; omega)
    have hg : List.getD (d :: ((pre ++ q :: post).map (putM e) ++ tail)) (Int.toNat ((pre.length + 1 : Nat) : Int)) (Ty.dflt T_api_Msg) = putM e q := by
      simp
    have hc : cut2 q.1 (e.1.length : Int) (List.length q.1 : Int) = List.drop e.1.length q.1 := cut_all q.1 e.1.length
    show law09_SettleCounts_l1_step NN (fun b0 b1 b2 b3 b4 b5 b6 b7 b8 b9 b10 b11 b12 => law09_SettleCounts_l1 NN n b0 b1 b2 b3 b4 b5 b6 b7 b8 b9 b10 b11 b12) b more (pre.length : Int) k [] [] [] [] e.1 e.2 0 (pre ++ q :: post) (d :: ((pre ++ q :: post).map (putM e) ++ tail)) = _
    simp only [law09_SettleCounts_l1_step, lt_mid, in_mid, cond_true, getD_mid, hi, hin, hg, hc]
    rw [gd_t rfl, gd_t rfl, gd_t rfl, gd_t rfl, wr_mid (q := q) hl', ih]
    rw [gd_t (bd_cut hm), gd_t (len_cut hk2 hk)]
    have e1 : (putM e q).1 = (1 : Int) := rfl
    have e2 : (putM e q).2.1 = e.2 ++ List.drop e.1.length q.1 := rfl
    have e3 : (putM e q).2.2.1 = q.2.1 := rfl
    have e4 : (putM e q).2.2.2.2.2.2 = q.2.2 := rfl
    have f1 : eqi ((putM e q).1) (1 : Int) = true := rfl
    have f2 : eqs (putM e q).2.1 (e.2 ++ List.drop e.1.length q.1) = true := eqs_self _
    have f3 : eqs (putM e q).2.2.1 q.2.1 = true := eqs_self _
    have f4 : eqi (putM e q).2.2.2.2.2.2 q.2.2 = true := eqi_self _
    rw [f1, f2, f3, f4]
    rfl

theorem plainCounts (x : List (Ty.T T_ref04_Raw)) (y : Ty.T T_ref05_Raw) (hx : okT (.list T_ref04_Raw) x) (hy : okT T_ref05_Raw y) : law09_SettleCounts NN x y = some true := by
  obtain ⟨m, h1, h2⟩ := made_ok hy
  obtain ⟨t, h3, h4, h5⟩ := tab_ok hx
  rcases good_kind h2 with ⟨k, e, rfl, hk, he⟩ | ⟨k4, k5⟩
  · obtain ⟨src, h8, h9⟩ := source_ok h4 h5 hk he
    have h10 := settle_ok hk he h9
    have hs := h9.1
    have p0 : law09_SettleCounts_p0 NN true k [] [] [] [] e.1 e.2 0 src (settleL k e src) = some (true, ()) := by
      have hz : (([] : List Pr).length : Int) = 0 := rfl
      have g0 : ∀ l : List Mg, List.getD (dropM e.2 :: l) (Int.toNat (0 : Int)) (Ty.dflt T_api_Msg) = dropM e.2 := fun l => rfl
      have g1 : eqi (dropM e.2).1 (3 : Int) = true := rfl
      have i0 : ∀ l : List Mg, inB (0 : Int) (dropM e.2 :: l).length = true := fun l => inB_t (by omega) (by simp; try omega)
      rcases hk with rfl | rfl
      · have hl := counts_l1 (k := 4) (he := he) (b := true) (more := 2) [dropM e.1] src [] NN (dropM e.2) (by simp only [NN]; omega) (by simp; omega) h9.2
        simp only [List.nil_append, hz] at hl
        have es : settleL 4 e src = dropM e.2 :: (src.map (putM e) ++ [dropM e.1]) := rfl
        have ee : (List.length (dropM e.2 :: (src.map (putM e) ++ [dropM e.1])) : Int) = (src.length : Int) + 2 := by simp; try omega
        have ew : IntKind.wrap .i64 ((src.length : Int) + 2) = (src.length : Int) + 2 := w64 (by omega) (by omega)
        have ew2 : IntKind.wrap .i64 ((src.length : Int) + 2 - 1) = (src.length : Int) + 1 := by rw [w64 (by omega) (by omega)]; omega
        have gl : List.getD (dropM e.2 :: (src.map (putM e) ++ [dropM e.1])) (Int.toNat ((src.length : Int) + 1)) (Ty.dflt T_api_Msg) = dropM e.1 := by
          have : Int.toNat ((src.length : Int) + 1) = src.length + 1 := by omega
          rw [this]
          simp
        have il : inB ((src.length : Int) + 1) (dropM e.2 :: (src.map (putM e) ++ [dropM e.1])).length = true := inB_t (by omega) (by simp; try omega)
        have gk : eqi (dropM e.1).1 (3 : Int) = true := rfl
        rw [es]
        simp only [law09_SettleCounts_p0, eqi_self, cond_true, ee, ew, Bool.not_true, cond_false, hl, g0, g1, i0]
        rw [gd_t rfl]
        have n1 : eqi (2 : Int) 1 = false := by decide
        rw [n1]
        simp only [cond_false, ew2, gl, il, gk]
        rfl
      · have hl := counts_l1 (k := 5) (he := he) (b := true) (more := 1) [] src [] NN (dropM e.2) (by simp only [NN]; omega) (by simp; omega) h9.2
        simp only [List.nil_append, hz] at hl
        have es : settleL 5 e src = dropM e.2 :: (src.map (putM e) ++ []) := rfl
        have ee : (List.length (dropM e.2 :: (src.map (putM e) ++ [])) : Int) = (src.length : Int) + 1 := by simp
        have ew : IntKind.wrap .i64 ((src.length : Int) + 1) = (src.length : Int) + 1 := w64 (by omega) (by omega)
        have n5 : eqi (5 : Int) 4 = false := by decide
        rw [es]
        simp only [law09_SettleCounts_p0, n5, eqi_self, cond_true, ee, ew, Bool.not_true, cond_false, hl, g0, g1, i0]
        rfl
    have p1 : law09_SettleCounts_p0 NN true (mv k e).1 (mv k e).2.1 (mv k e).2.2.1 (mv k e).2.2.2.1.1 (mv k e).2.2.2.1.2 (mv k e).2.2.2.2.1 (mv k e).2.2.2.2.2.1 (mv k e).2.2.2.2.2.2 src (settleL k e src) = some (true, ()) := p0
    simp only [law09_SettleCounts, sanity_ok, h1, h3, h8, h10, p1]
    rcases hk with rfl | rfl <;> rfl
  · have h8 := source_no (t := t) k4 k5
    have h9 := settle_no k4 k5 ([] : List Pr)
    simp only [law09_SettleCounts, sanity_ok, h1, h3, h8, h9, k4, k5, Bool.not_false, cond_true]
    rfl
end Ds
