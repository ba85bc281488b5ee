/- The plain law of PathJoins. -/
import Derived.Test.YtmffojmbfphidaaDoorDsTyped
set_option linter.all false
namespace Ds
open Go Go.Dv
set_option maxRecDepth 100000
set_option linter.unusedVariables false

theorem last_l0 (a b : B) (hb : 47 ∉ b) (ha : a = [] ∨ ∃ t, a = t ++ [47]) (hl : (a ++ b).length < 1000000) : ∀ (j n : Nat), j ≤ b.length → j < n →
    bytealg_LastIndexByteString_l0 NN n (a ++ b) 47 ((a.length : Int) + (j : Int) - 1) = some (if a = [] then .inr ((), ()) else .inl ((a.length : Int) - 1, ()))
  | _, 0, _, h => absurd h (Nat.not_lt_zero _)
  | 0, n + 1, _, _ => by
    rw [bytealg_LastIndexByteString_l0_succ]
    simp only [bytealg_LastIndexByteString_l0_step]
    rcases ha with rfl | ⟨t, rfl⟩
    · rfl
    · have e : (((t ++ [47]).length : Int) + ((0 : Nat) : Int) - 1) = (t.length : Int) := by simp
      have d : decide ((0 : Int) ≤ (t.length : Int)) = true := by simp
      have r : bt (t ++ [47] ++ b) (t.length : Int) = 47 := by simp [bt]
      rw [e]
      simp only [d, cond_true, r]
      rw [gd_t (by simp [inB]; omega), if_neg (by simp)]
      simp
  | j + 1, n + 1, hj, hn => by
    have hjl : j < b.length := by omega
    have e : ((a.length : Int) + ((j + 1 : Nat) : Int) - 1) = ((a.length + j : Nat) : Int) := by omega
    have d : decide ((0 : Int) ≤ ((a.length + j : Nat) : Int)) = true := by simp; omega
    have r : bt (a ++ b) ((a.length + j : Nat) : Int) = (b[j].toNat : Int) := by
      unfold bt
      rw [Int.toNat_natCast, List.getD_eq_getElem?_getD, List.getElem?_append_right (by omega), show a.length + j - a.length = j by omega, List.getElem?_eq_getElem hjl]
      rfl
    have ne : eqi ((b[j].toNat : Nat) : Int) 47 = false := eqi_ne fun h => by
      have h1 : b[j].toNat = 47 := by omega
      have h2 : b[j] = 47 := by rw [← UInt8.toNat_inj]; exact h1
      exact hb (h2 ▸ List.getElem_mem hjl)
    have w : IntKind.wrap .i64 (((a.length + j : Nat) : Int) - (1 : Int)) = (a.length : Int) + (j : Int) - 1 := by
      simp only [List.length_append] at hl
      rw [w64 (by omega) (by omega)]; omega
    rw [e, bytealg_LastIndexByteString_l0_succ]
    simp only [bytealg_LastIndexByteString_l0_step, d, cond_true, r, ne, cond_false, w]
    rw [gd_t (by simp [inB]; omega)]
    exact last_l0 a b hb ha hl j n (by omega) (by omega)

theorem last_eq (a b : B) (hb : 47 ∉ b) (ha : a = [] ∨ ∃ t, a = t ++ [47]) (hl : (a ++ b).length < 100000) : strings_LastIndexByte NN (a ++ b) 47 = some ((a.length : Int) - 1) := by
  have h := last_l0 a b hb ha (by omega) b.length NN (Nat.le_refl _) (by simp only [NN]; simp at hl; omega)
  have w : IntKind.wrap .i64 (((a ++ b).length : Int) - (1 : Int)) = (a.length : Int) + (b.length : Int) - 1 := by
    rw [w64 (by omega) (by omega)]; simp
  simp only [strings_LastIndexByte, bytealg_LastIndexByteString, w, h]
  by_cases e : a = []
  · rw [if_pos e, e]; rfl
  · rw [if_neg e]

theorem Split_eq {a b : B} (hv : validB (a ++ b ++ [47]) = true) (hb : 47 ∉ b) (ha : a = [] ∨ ∃ t, a = t ++ [47]) (hl : (a ++ b).length < 10000) : path_Split NN (a ++ b ++ [47]) = some (a, b, 0) := by
  have e0 : eqs (a ++ b ++ [47]) [] = false := eqs_ne (by simp)
  have w : IntKind.wrap .i64 (((a ++ b ++ [47]).length : Int) - (1 : Int)) = ((a ++ b).length : Int) := by
    rw [w64 (by simp; omega) (by simp; simp at hl; omega)]; simp; omega
  have w2 : IntKind.wrap .i64 ((a.length : Int) - 1 + (1 : Int)) = (a.length : Int) := by
    simp only [List.length_append] at hl
    rw [w64 (by omega) (by omega)]; omega
  have c : cut2 (a ++ b ++ [47]) (0 : Int) ((a ++ b).length : Int) = a ++ b := by
    unfold cut2
    have e : Int.toNat (0 : Int) = 0 := rfl
    rw [Int.toNat_natCast, e, List.drop_zero, Nat.sub_zero]
    exact List.take_left
  have c1 : cut2 (a ++ b ++ [47]) (0 : Int) (a.length : Int) = a := by
    unfold cut2; simp
  have c2 : cut2 (a ++ b ++ [47]) (a.length : Int) ((a ++ b).length : Int) = b := by
    unfold cut2
    have e : (a ++ b).length - a.length = b.length := by simp
    rw [Int.toNat_natCast, Int.toNat_natCast, e, List.append_assoc, List.drop_left]
    exact List.take_left
  simp only [path_Split, Valid_eq (s := a ++ b ++ [47]) (by simp at hl ⊢; omega), hv, Bool.not_true, cond_false, e0, w, c, last_eq a b hb ha (by omega), w2, c1, c2]
  rw [gd_t (by simp; omega), gd_t (by simp; omega), gd_t (by simp; omega)]

theorem split_nil : law01_split NN [] = some ([], [], 337) := rfl
theorem Split_join {l : List B} {n : B} (hl : ∀ m ∈ l, nameB m = true) (hn : nameB n = true) (h4 : l.length ≤ 10) : law01_split NN (joinP l ++ n ++ [47]) = some (joinP l, n, 0) := by
  have h1 := join_len hl
  have h2 := name_len hn
  have hv : validB (joinP l ++ n ++ [47]) = true := by
    have : joinP l ++ n ++ [47] = joinP (l ++ [n]) := by rw [joinP_append]; simp [joinP]
    rw [this]
    exact valid_join fun m hm => by
      rcases List.mem_append.1 hm with hm | hm
      · exact hl m hm
      · rw [List.mem_singleton.1 hm]; exact hn
  simp only [law01_split, Split_eq hv (name_sl hn) (valid_end (valid_join hl)) (by simp; omega)]

theorem Join_eq {l : List B} {n : B} (hl : ∀ m ∈ l, nameB m = true) (hn : nameB n = true) (h4 : l.length ≤ 10) : path_Join NN (joinP l) n = some (joinP l ++ n ++ [47], 0) := by
  have h1 := join_len hl
  have h2 := name_len hn
  have w : IntKind.wrap .i64 (((joinP l).length : Int) + (n.length : Int)) = ((joinP l).length : Int) + (n.length : Int) := w64 (by omega) (by omega)
  have w2 : IntKind.wrap .i64 (((joinP l).length : Int) + (n.length : Int) + (1 : Int)) = ((joinP l).length : Int) + (n.length : Int) + 1 := w64 (by omega) (by omega)
  have d : decide ((200 : Int) < ((joinP l).length : Int) + (n.length : Int) + 1) = false := by simp; omega
  simp only [path_Join, Valid_eq (s := joinP l) (by omega), valid_join hl, isName_eq, hn, Bool.not_true, cond_false, w, w2, d]
  rw [gd_p (by simp only [maxS]; omega), gd_p (by simp only [maxS, List.length_append, List.length_singleton]; omega)]

theorem joins_p0 {l : List B} (hl : ∀ m ∈ l, nameB m = true) (h4 : l.length ≤ 4) : law01_PathJoins_p0 NN true (joinP l) = some (true, ()) := by
  rcases List.eq_nil_or_concat l with rfl | ⟨ms, n, rfl⟩
  · rfl
  · rw [List.concat_eq_append] at hl h4 ⊢
    have hms : ∀ m ∈ ms, nameB m = true := fun m hm => hl m (by simp [hm])
    have hn : nameB n = true := hl n (by simp)
    have e : joinP (ms ++ [n]) = joinP ms ++ n ++ [47] := by rw [joinP_append]; simp [joinP]
    have h5 : ms.length ≤ 10 := by simp at h4; omega
    have hml := join_len hms
    have ne : eqs (joinP ms ++ n ++ [47]) [] = false := eqs_ne (by simp)
    have z : eqi (0 : Int) 0 = true := rfl
    rw [e]
    simp only [law01_PathJoins_p0, Split_join hms hn h5, ne, cond_false, Join_eq hms hn h5, z, cond_true, eqs_self, Valid_eq (s := joinP ms) (by omega), valid_join hms]

theorem plainJoins (l : List Int) (s : List UInt8) (hl : okSh (.list (.int .u8)) l) (hs : okSh .str s) : law01_PathJoins NN l s = some true := by
  have hu := u8s_of hl
  have hp := madeP_len hu
  have hn := madeN_name hu
  have h4 := madeN_len l
  have p0 := joins_p0 hn h4
  simp only [law01_PathJoins, sanity1, Made_eq hu]
  cases e : decide ((20 : Int) < (s.length : Int))
  · have e := of_decide_eq_false e
    simp only [cond_false]
    cases hN : nameB s
    · have hj : path_Join NN (madeP l) s = some ([], 11) := by
        simp only [path_Join, Valid_eq (s := madeP l) (by omega), madeP_valid hu, isName_eq, hN, Bool.not_true, cond_false, Bool.not_false, cond_true]
      have z : eqi (11 : Int) 0 = false := rfl
      have p0' : law01_PathJoins_p0 NN true (madeP l) = some (true, ()) := p0
      simp only [hj, z, eqi_self, eqs_self, Bool.not_true, cond_false, p0']
    · have hj : path_Join NN (madeP l) s = some (madeP l ++ s ++ [47], 0) := Join_eq hn hN (by omega)
      have hsp : law01_split NN (madeP l ++ s ++ [47]) = some (madeP l, s, 0) := Split_join hn hN (by omega)
      have hv : validB (madeP l ++ s ++ [47]) = true := by
        have : madeP l ++ s ++ [47] = joinP (madeN l ++ [s]) := by unfold madeP; rw [joinP_append]; simp [joinP]
        rw [this]
        exact valid_join fun m hm => by
          rcases List.mem_append.1 hm with hm | hm
          · exact hn m hm
          · rw [List.mem_singleton.1 hm]; exact hN
      have u1 : (madeP l).isPrefixOf (madeP l ++ s ++ [47]) = true := by
        rw [List.isPrefixOf_iff_prefix, List.append_assoc]; exact List.prefix_append _ _
      have u2 : (madeP l ++ s ++ [47]).isPrefixOf (madeP l) = false := by
        cases h : (madeP l ++ s ++ [47]).isPrefixOf (madeP l)
        · rfl
        · have := (List.isPrefixOf_iff_prefix.1 h).length_le
          simp at this; omega
      have p0' : law01_PathJoins_p0 NN true (madeP l) = some (true, ()) := p0
      simp only [hj, eqi_self, cond_true, Valid_eq (s := madeP l ++ s ++ [47]) (by simp; omega), hv, Bool.not_true, cond_false, hsp, eqs_self, Bool.and_self, Under_eq (madeP l ++ s ++ [47]) (madeP l) (by simp; omega), u1, Under_eq (madeP l) (madeP l ++ s ++ [47]) (by omega), u2, p0']
  · rfl
end Ds
