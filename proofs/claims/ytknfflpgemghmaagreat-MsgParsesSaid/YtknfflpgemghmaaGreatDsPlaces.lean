/- What the program's tables are: places, ranges, drops, puts, unions. -/
import Derived.Test.YtknfflpgemghmaaGreatDsTables
set_option linter.all false
namespace Ds
open Go Go.Dv
set_option maxRecDepth 100000
set_option linter.unusedVariables false

theorem cmpS_lt : ∀ a b : B, decide (cmpS a b < 0) = lts a b
  | [], [] => rfl
  | [], _ :: _ => rfl
  | _ :: _, [] => rfl
  | a :: x, b :: y => by
    have e : cmpS (a :: x) (b :: y) = if a < b then -1 else if b < a then 1 else cmpS x y := rfl
    rw [e, lts_cons, ← cmpS_lt x y]
    rcases u8_tri a b with h | rfl | h
    · simp [h]
    · simp [UInt8.lt_irrefl]
    · have h2 : ¬ a < b := fun g => UInt8.lt_irrefl _ (UInt8.lt_trans h g)
      have h3 : a ≠ b := fun g => by subst g; exact h2 h
      simp [h, h2, h3]

theorem cmpS_eq : ∀ a b : B, eqi (cmpS a b) 0 = eqs a b
  | [], [] => rfl
  | [], _ :: _ => rfl
  | _ :: _, [] => rfl
  | a :: x, b :: y => by
    have e : cmpS (a :: x) (b :: y) = if a < b then -1 else if b < a then 1 else cmpS x y := rfl
    have ih := cmpS_eq x y
    rw [e]
    simp only [eqi, eqs] at ih ⊢
    rcases u8_tri a b with h | rfl | h
    · have h3 : a ≠ b := fun g => by subst g; exact UInt8.lt_irrefl _ h
      simp [h, h3]
    · simp only [UInt8.lt_irrefl, if_false, ih]; simp
    · have h2 : ¬ a < b := fun g => UInt8.lt_irrefl _ (UInt8.lt_trans h g)
      have h3 : a ≠ b := fun g => by subst g; exact h2 h
      simp [h, h2, h3]

theorem half {i j : Nat} (h : i + j < 4000000000) : IntKind.wrap .i64 (Int.fdiv (IntKind.wrap .u64 (IntKind.wrap .i64 ((i : Int) + (j : Int)))) (2 ^ min (Int.toNat (1 : Int)) (IntKind.bits .u64))) = (((i + j) / 2 : Nat) : Int) := by
  have e1 : IntKind.wrap .i64 ((i : Int) + (j : Int)) = ((i + j : Nat) : Int) := by rw [w64 (by omega) (by omega)]; omega
  have e2 : IntKind.wrap .u64 ((i + j : Nat) : Int) = ((i + j : Nat) : Int) := by
    rw [IntKind.wrap_u64]; omega
  have e3 : (2 : Int) ^ min (Int.toNat (1 : Int)) (IntKind.bits .u64) = 2 := by decide
  rw [e1, e2, e3, w64]
  · rw [Int.fdiv_eq_ediv_of_nonneg _ (by omega)]; omega
  · rw [Int.fdiv_eq_ediv_of_nonneg _ (by omega)]; omega
  · rw [Int.fdiv_eq_ediv_of_nonneg _ (by omega)]; omega

theorem c1_ok (N : Nat) (p : Pr) (k : B) : table_place_c1 N p k = some (cmpS p.1 k) := rfl

abbrev bsl0 := slices_BinarySearchFunc_s_api_Pair_api_Pair_string__table_place_c1_l0
abbrev bsl0_step := slices_BinarySearchFunc_s_api_Pair_api_Pair_string__table_place_c1_l0_step
theorem bs_l0 (N : Nat) {t : List Pr} (k : B) (hs : Srt t) (hl : t.length < 1000000000) (x : Int) : ∀ n i j : Nat, i ≤ cnt t k → cnt t k ≤ j → j ≤ t.length → j - i < n →
    slices_BinarySearchFunc_s_api_Pair_api_Pair_string__table_place_c1_l0 N n t k x (i : Int) (j : Int) = some ((t, (k, ((), (x, (cnt t k : Int))))), ())
  | 0, _, _, _, _, _, h => absurd h (Nat.not_lt_zero _)
  | n + 1, i, j, h1, h2, h3, h4 => by
    rw [slices_BinarySearchFunc_s_api_Pair_api_Pair_string__table_place_c1_l0_succ]
    simp only [slices_BinarySearchFunc_s_api_Pair_api_Pair_string__table_place_c1_l0_step, half (i := i) (j := j) (by omega)]
    by_cases h : i < j
    · rw [bif_t (by simp; omega)]
      have hm : (i + j) / 2 < t.length := by omega
      have hg : t[(i + j) / 2]? = some (t[(i + j) / 2]'hm) := List.getElem?_eq_getElem hm
      have hr : rdL t (((i + j) / 2 : Nat) : Int) D_api_Pair = t[(i + j) / 2]'hm := rd_get (by omega) (by rw [Int.toNat_natCast]; exact hg)
      have hc := hs.lt_cnt (k := k) hg
      rw [gd_p (show (0 : Int) ≤ 1 by decide), gd_t (inB_t (by omega) (by omega)), hr, c1_ok]
      simp only
      rw [cmpS_lt]
      cases e : lts (t[(i + j) / 2]'hm).1 k
      · rw [e] at hc
        have : cnt t k ≤ (i + j) / 2 := by
          rcases Nat.lt_or_ge ((i + j) / 2) (cnt t k) with g | g
          · have := hc.2 g; cases this
          · exact g
        exact bs_l0 N k hs hl x n i ((i + j) / 2) h1 this (by omega) (by omega)
      · have := hc.1 e
        rw [cond_true, w64 (by omega) (by omega)]
        exact bs_l0 N k hs hl x n ((i + j) / 2 + 1) j (by omega) h2 h3 (by omega)
    · have : i = cnt t k := by omega
      rw [bif_f (by simp; omega), this]

def hitB (t : List Pr) (k : B) : Bool := match t[cnt t k]? with | some p => eqs p.1 k | none => false

theorem place_ok (N : Nat) {t : List Pr} (k : B) (hs : Srt t) (hN : t.length < N) (hl : t.length < 1000000000) : table_place N t k = some ((cnt t k : Int), hitB t k) := by
  have h := bs_l0 N k hs hl (t.length : Int) N 0 t.length (Nat.zero_le _) (cnt_le t k) (Nat.le_refl _) (by omega)
  have hz : ((0 : Nat) : Int) = 0 := rfl
  rw [hz] at h
  simp only [table_place, slices_BinarySearchFunc_s_api_Pair_api_Pair_string__table_place_c1, h]
  have hc := cnt_le t k
  by_cases e : cnt t k < t.length
  · rw [bif_t (by simp; omega), gd_t (inB_t (by omega) (by omega))]
    have hg : t[cnt t k]? = some (t[cnt t k]'e) := List.getElem?_eq_getElem e
    have hr : rdL t (cnt t k : Int) D_api_Pair = t[cnt t k]'e := rd_get (by omega) (by rw [Int.toNat_natCast]; exact hg)
    rw [hr, c1_ok]
    simp only [cmpS_eq, hitB, hg]
  · rw [bif_f (by simp; omega)]
    have hg : t[cnt t k]? = none := List.getElem?_eq_none (by omega)
    simp only [hitB, hg]

/-! ## spans -/
def emptyB (s : B × B) : Bool := !(eqs s.2 []) && (lts s.2 s.1 || eqs s.2 s.1)
theorem empty_eq (N : Nat) (s : V_api_Span) : span_Empty N s = some (emptyB s) := by
  simp only [span_Empty, emptyB]; cases eqs s.2 [] <;> rfl
theorem refEmpty_eq (N : Nat) (s : V_api_Span) : ref02_Empty N s = some (emptyB s) := by
  simp only [ref02_Empty, emptyB]; cases eqs s.2 [] <;> rfl
theorem empty_no {s : B × B} (h : emptyB s = true) (k : B) : hasB s k = false := by
  simp only [emptyB, Bool.and_eq_true, Bool.not_eq_true', Bool.or_eq_true] at h
  simp only [hasB, h.1]
  cases e : lts k s.1
  · simp only [Bool.not_false, cond_true, cond_false]
    rcases h.2 with h | h
    · cases e2 : lts k s.2
      · rfl
      · have := lts_trans e2 h; rw [e] at this; cases this
    · rw [eqs_iff.1 h]; exact e
  · rfl

def loB (t : List Pr) (s : B × B) : Nat := bif emptyB s then 0 else cnt t s.1
def hiB (t : List Pr) (s : B × B) : Nat := bif emptyB s then 0 else bif eqs s.2 [] then t.length else cnt t s.2

theorem bounds_ok (N : Nat) {t : List Pr} (s : V_api_Span) (hs : Srt t) (hN : t.length < N) (hl : t.length < 1000000000) : table_bounds N t s = some ((loB t s : Int), (hiB t s : Int)) := by
  simp only [table_bounds, empty_eq, loB, hiB, place_ok N s.1 hs hN hl, place_ok N s.2 hs hN hl]
  cases emptyB s
  · cases eqs s.2 [] <;> rfl
  · rfl

theorem cnt_mono {t : List Pr} (hs : Srt t) {a b : B} (h : lts b a = false) : cnt t a ≤ cnt t b := by
  unfold cnt
  have : t.filter (fun p => lts p.1 a) = (t.filter (fun p => lts p.1 b)).filter (fun p => lts p.1 a) := by
    rw [List.filter_filter]
    refine List.filter_congr fun p _ => ?_
    cases e : lts p.1 a
    · rfl
    · rw [lts_le e h]; rfl
  rw [this]
  exact List.length_filter_le _ _

theorem lo_hi {t : List Pr} (hs : Srt t) (s : B × B) : loB t s ≤ hiB t s ∧ hiB t s ≤ t.length := by
  simp only [loB, hiB]
  cases e : emptyB s
  · simp only [cond_false]
    cases e2 : eqs s.2 []
    · simp only [cond_false]
      refine ⟨cnt_mono hs ?_, cnt_le _ _⟩
      simp only [emptyB, e2, Bool.not_false, Bool.true_and, Bool.or_eq_false_iff] at e
      exact e.1
    · exact ⟨cnt_le _ _, Nat.le_refl _⟩
  · exact ⟨Nat.le_refl _, Nat.zero_le _⟩

/-- what lies outside of a span -/
theorem outside_eq {t : List Pr} (hs : Srt t) (s : B × B) : t.take (loB t s) ++ t.drop (hiB t s) = t.filter (fun p => !(hasB s p.1)) := by
  simp only [loB, hiB]
  cases e : emptyB s
  · simp only [cond_false]
    rw [(hs.take_cnt s.1).1]
    have main : ∀ f : B → Bool, (∀ k, f k = true → lts k s.1 = false) → (∀ k, hasB s k = (!(lts k s.1) && !(f k))) → t.filter (fun p => lts p.1 s.1) ++ t.filter (fun p => f p.1) = t.filter (fun p => !(hasB s p.1)) := by
      intro f hf hh
      refine Srt.ext ?_ (hs.filter _) fun k => ?_
      · refine List.pairwise_append.2 ⟨hs.filter _, hs.filter _, fun a ha b hb => ?_⟩
        have ha := (List.mem_filter.1 ha).2
        have hb := hf _ (List.mem_filter.1 hb).2
        exact lts_le ha hb
      · rw [fnd_append, fnd_filter (fun x => lts x s.1), fnd_filter f, fnd_filter (fun x => !(hasB s x)), hh]
        cases e1 : lts k s.1 <;> cases e2 : f k <;> simp only [Bool.not_true, Bool.not_false, Bool.and_self, Bool.and_true, Bool.and_false, cond_true, cond_false]
        · cases fnd t k <;> rfl
        · cases fnd t k <;> rfl
    cases e2 : eqs s.2 []
    · simp only [cond_false]
      rw [(hs.take_cnt s.2).2]
      simp only [emptyB, e2, Bool.not_false, Bool.true_and, Bool.or_eq_false_iff] at e
      refine main (fun k => !(lts k s.2)) (fun k hk => ?_) fun k => ?_
      · cases e3 : lts k s.1
        · rfl
        · have := lts_le e3 e.1
          simp [this] at hk
      · simp only [hasB, e2, cond_false, Bool.not_not]
        cases lts k s.1 <;> rfl
    · simp only [cond_true, List.drop_length]
      have := main (fun _ => false) (fun k hk => by cases hk) fun k => by
        simp only [hasB, e2, cond_true]
        cases lts k s.1 <;> rfl
      have z : t.filter (fun p => (fun _ => false) p.1) = [] := List.filter_eq_nil_iff.2 fun p _ => by simp
      rw [z, List.append_nil] at this
      rw [List.append_nil]
      exact this
  · simp only [cond_true, List.take_zero, List.nil_append, List.drop_zero]
    refine (List.filter_eq_self.2 fun p _ => ?_).symm
    rw [empty_no e]; rfl

theorem inside_eq {t : List Pr} (hs : Srt t) (s : B × B) : cut2 t (loB t s : Int) (hiB t s : Int) = t.filter (fun p => hasB s p.1) := by
  have hlh := lo_hi hs s
  simp only [cut2, Int.toNat_natCast]
  simp only [loB, hiB] at hlh ⊢
  cases e : emptyB s
  · simp only [e, cond_false] at hlh ⊢
    rw [(hs.take_cnt s.1).2]
    cases e2 : eqs s.2 []
    · simp only [e2, cond_false] at hlh ⊢
      have hsr := hs.filter (fun p => !(lts p.1 s.1))
      have hc : cnt t s.2 - cnt t s.1 = cnt (t.filter (fun p => !(lts p.1 s.1))) s.2 := by
        have : cnt t s.2 = cnt (t.filter (fun p => lts p.1 s.1)) s.2 + cnt (t.filter (fun p => !(lts p.1 s.1))) s.2 := by
          unfold cnt
          rw [← List.length_append, ← List.filter_append, ← (hs.take_cnt s.1).1, ← (hs.take_cnt s.1).2, List.take_append_drop]
        have h2 : cnt (t.filter (fun p => lts p.1 s.1)) s.2 = cnt t s.1 := by
          unfold cnt
          rw [List.filter_filter]
          congr 1
          refine List.filter_congr fun p _ => ?_
          cases e3 : lts p.1 s.1
          · simp
          · simp only [emptyB, e2, Bool.not_false, Bool.true_and, Bool.or_eq_false_iff] at e
            rw [lts_le e3 e.1]; rfl
        omega
      rw [hc, (hsr.take_cnt s.2).1, List.filter_filter]
      refine List.filter_congr fun p _ => ?_
      simp only [hasB, e2, cond_false]
      cases lts p.1 s.1 <;> cases lts p.1 s.2 <;> rfl
    · simp only [e2, cond_true] at hlh ⊢
      rw [List.take_of_length_le]
      · refine List.filter_congr fun p _ => ?_
        simp only [hasB, e2, cond_true]
        cases lts p.1 s.1 <;> rfl
      · rw [← (hs.take_cnt s.1).2, List.length_drop]; exact Nat.le_refl _
  · simp only [cond_true, Nat.sub_self, List.take_zero]
    refine (List.filter_eq_nil_iff.2 fun p _ => ?_).symm
    rw [empty_no e]; simp

theorem Range_ok (N : Nat) {t : List Pr} (s : V_api_Span) (hs : Srt t) (hN : t.length < N) (hl : t.length < 1000000000) : table_Range N t s = some (t.filter (fun p => hasB s p.1)) := by
  have := lo_hi hs s
  simp only [table_Range, bounds_ok N s hs hN hl]
  rw [gd_t (by simp [eqi]; omega), inside_eq hs]

theorem concat2 (N : Nat) (a b : List Pr) (hN : 2 < N) (ha : a.length < 1000000000) (hb : b.length < 1000000000) : slices_Concat_s_api_Pair_api_Pair N [a, b] = some (a ++ b) := by
  obtain ⟨n, rfl⟩ : ∃ n, N = n + 3 := ⟨N - 3, by omega⟩
  have h0 : slices_Concat_s_api_Pair_api_Pair_l0 (n + 3) (n + 3) [a, b] (0 : Int) [a, b] (([a, b] : List (List Pr)).length : Int) (0 : Int) = some (([a, b], ((a.length + b.length : Nat) : Int)), ()) := by
    have e1 : IntKind.wrap .i64 ((0 : Int) + (a.length : Int)) = (a.length : Int) := by rw [w64 (by omega) (by omega)]; omega
    have e2 : IntKind.wrap .i64 ((a.length : Int) + (b.length : Int)) = ((a.length + b.length : Nat) : Int) := by rw [w64 (by omega) (by omega)]; omega
    have e3 : IntKind.wrap .i64 ((0 : Int) + (1 : Int)) = 1 := by decide
    have e4 : IntKind.wrap .i64 ((1 : Int) + (1 : Int)) = 2 := by decide
    have r0 : rdL [a, b] (0 : Int) ([] : List Pr) = a := rfl
    have r1 : rdL [a, b] (1 : Int) ([] : List Pr) = b := rfl
    have l2 : (([a, b] : List (List Pr)).length : Int) = 2 := rfl
    rw [slices_Concat_s_api_Pair_api_Pair_l0_succ]
    simp only [slices_Concat_s_api_Pair_api_Pair_l0_step, l2, r0, e1, e3]
    rw [bif_t (by decide), gd_t (by rfl), bif_f (by simp), slices_Concat_s_api_Pair_api_Pair_l0_succ]
    simp only [slices_Concat_s_api_Pair_api_Pair_l0_step, r1, e2, e4]
    rw [bif_t (by decide), gd_t (by rfl), bif_f (by simp; omega), slices_Concat_s_api_Pair_api_Pair_l0_succ]
    simp only [slices_Concat_s_api_Pair_api_Pair_l0_step]
    rw [bif_f (by decide)]
  have h1 : slices_Concat_s_api_Pair_api_Pair_l1 (n + 3) (n + 3) [a, b] (([a, b] : List (List Pr)).length : Int) (0 : Int) [] = some ((), (a ++ b, ())) := by
    have e3 : IntKind.wrap .i64 ((0 : Int) + (1 : Int)) = 1 := by decide
    have e4 : IntKind.wrap .i64 ((1 : Int) + (1 : Int)) = 2 := by decide
    have r0 : rdL [a, b] (0 : Int) ([] : List Pr) = a := rfl
    have r1 : rdL [a, b] (1 : Int) ([] : List Pr) = b := rfl
    have l2 : (([a, b] : List (List Pr)).length : Int) = 2 := rfl
    rw [slices_Concat_s_api_Pair_api_Pair_l1_succ]
    simp only [slices_Concat_s_api_Pair_api_Pair_l1_step, l2, r0, e3]
    rw [bif_t (by decide), gd_t (by rfl), gd_t (fits_p (by simp; omega) (by omega)), slices_Concat_s_api_Pair_api_Pair_l1_succ]
    simp only [slices_Concat_s_api_Pair_api_Pair_l1_step, r1, e4]
    rw [bif_t (by decide), gd_t (by rfl), gd_t (fits_p (by simp; omega) (by omega)), slices_Concat_s_api_Pair_api_Pair_l1_succ]
    simp only [slices_Concat_s_api_Pair_api_Pair_l1_step]
    rw [bif_f (by decide)]
    simp
  simp only [slices_Concat_s_api_Pair_api_Pair, h0, slices_Grow_s_api_Pair_api_Pair_nil]
  rw [gd_t (by simp only [Int.toNat_natCast, Bool.and_eq_true, decide_eq_true_eq]; exact ⟨by omega, fits_p (by omega) (by omega)⟩)]
  simp only [h1]

theorem Drop_ok (N : Nat) {t : List Pr} (s : V_api_Span) (hs : Srt t) (hN : t.length + 2 < N) (hl : t.length < 1000000000) : table_Drop N t s = some (t.filter (fun p => !(hasB s p.1))) := by
  have h := lo_hi hs s
  simp only [table_Drop, bounds_ok N s hs (by omega) hl]
  rw [gd_t (by simp; omega), gd_t (by simp; omega)]
  have c1 : cut2 t (0 : Int) (loB t s : Int) = t.take (loB t s) := by simp [cut2]
  have c2 : cut2 t (hiB t s : Int) (t.length : Int) = t.drop (hiB t s) := by
    simp only [cut2, Int.toNat_natCast]
    exact List.take_of_length_le (by simp)
  rw [c1, c2, concat2 N _ _ (by omega) (by simp; omega) (by simp; omega), outside_eq hs]

/-! ## puts -/
theorem hit_drop {t : List Pr} (hs : Srt t) (p : Pr) : hitB t p.1 = true → t.drop (cnt t p.1 + 1) = t.filter (fun q => lts p.1 q.1) := by
  intro h
  have hd := (hs.take_cnt p.1).2
  unfold hitB at h
  split at h
  · rename_i q hq
    have hlt : cnt t p.1 < t.length := by
      rcases Nat.lt_or_ge (cnt t p.1) t.length with g | g
      · exact g
      · rw [List.getElem?_eq_none g] at hq; cases hq
    have hdq : t.drop (cnt t p.1) = q :: t.drop (cnt t p.1 + 1) := by
      rw [List.drop_eq_getElem_cons hlt]
      rw [List.getElem?_eq_getElem hlt] at hq
      cases hq; rfl
    have hk := eqs_iff.1 h
    have hsd : Srt (t.drop (cnt t p.1)) := by rw [hd]; exact hs.filter _
    rw [hdq] at hsd
    obtain ⟨g1, _⟩ := List.pairwise_cons.1 hsd
    have e1 : t.filter (fun q => lts p.1 q.1) = (t.drop (cnt t p.1)).filter (fun q => lts p.1 q.1) := by
      rw [hd, List.filter_filter]
      refine List.filter_congr fun x _ => ?_
      cases e : lts p.1 x.1
      · rfl
      · rw [lts_asymm e]; rfl
    rw [e1, hdq, List.filter_cons_of_neg (by rw [hk, lts_irrefl]; simp)]
    exact (List.filter_eq_self.2 fun x hx => by rw [← hk]; exact g1 x hx).symm
  · cases h

theorem nohit {t : List Pr} (hs : Srt t) (k : B) : hitB t k = false → t.filter (fun q => !(lts q.1 k)) = t.filter (fun q => lts k q.1) := by
  intro h
  refine List.filter_congr fun x hx => ?_
  obtain ⟨i, hi, rfl⟩ := List.getElem_of_mem hx
  rcases lts_tri t[i].1 k with e | e | e
  · rw [e, lts_asymm e]; rfl
  · exfalso
    have hg : t[i]? = some t[i] := List.getElem?_eq_getElem hi
    have h1 : ¬ i < cnt t k := fun g => by
      have := (hs.lt_cnt hg).2 g
      rw [e, lts_irrefl] at this; cases this
    -- the place is just i
    have h2 : cnt t k ≤ i := by omega
    rcases Nat.lt_or_ge (cnt t k) i with g | g
    · have hg' : t[cnt t k]? = some (t[cnt t k]'(by omega)) := List.getElem?_eq_getElem (by omega)
      have hlt := (List.pairwise_iff_getElem.1 hs) (cnt t k) i (by omega) hi g
      rw [e] at hlt
      have := (hs.lt_cnt hg').1 hlt
      omega
    · have : cnt t k = i := by omega
      unfold hitB at h
      rw [this, hg] at h
      simp [e] at h
  · rw [e, lts_asymm e]; rfl

theorem Put_ok (N : Nat) {t : List Pr} (p : Pr) (hs : Srt t) (hN : t.length < N) (hl : t.length < 1000000000) : table_Put N t p = some (insT p t) := by
  have hc := cnt_le t p.1
  simp only [table_Put, place_ok N p.1 hs hN hl, slices_Clone_s_api_Pair_api_Pair]
  rw [gd_t (fits_p (by omega) (by omega))]
  simp only
  cases e : hitB t p.1
  · simp only [cond_false, slices_Insert_s_api_Pair_api_Pair_m]
    rw [gd_t (by simp only [Bool.and_eq_true, decide_eq_true_eq, List.length_cons, List.length_nil]; exact ⟨by omega, by omega, rfl, fits_p (by omega) (by omega)⟩)]
    simp only [insL, Int.toNat_natCast, insT, (hs.take_cnt p.1).1, (hs.take_cnt p.1).2, nohit hs _ e]
    simp
  · have hlt : cnt t p.1 < t.length := by
      rcases Nat.lt_or_ge (cnt t p.1) t.length with g | g
      · exact g
      · unfold hitB at e; rw [List.getElem?_eq_none g] at e; cases e
    simp only [cond_true]
    rw [gd_t (inB_t (by omega) (by omega))]
    simp only [setL, Int.toNat_natCast, insT, ← hit_drop hs p e, ← (hs.take_cnt p.1).1]
    rw [List.set_eq_take_append_cons_drop, if_pos hlt]

theorem putGo_true (p : Pr) : ∀ t : List Pr, putGo p true t = t.filter (fun q => !(eqs q.1 p.1))
  | [] => rfl
  | q :: t => by
    simp only [putGo, Bool.not_true, Bool.false_and, cond_false, List.nil_append, Bool.true_or, putGo_true p t]
    cases e : eqs q.1 p.1
    · rw [List.filter_cons_of_pos (by simp [e])]; rfl
    · rw [List.filter_cons_of_neg (by simp [e])]; rfl

theorem putGo_insT (p : Pr) : ∀ {t : List Pr}, Srt t → putGo p false t = insT p t
  | [], _ => rfl
  | q :: t, hs => by
    obtain ⟨h1, h2⟩ := List.pairwise_cons.1 hs
    have ih := putGo_insT p h2
    have all : lts q.1 p.1 = false → t.filter (fun x => lts x.1 p.1) = [] ∧ t.filter (fun x => !(eqs x.1 p.1)) = t ∧ t.filter (fun x => lts p.1 x.1) = t := by
      intro e
      have hx : ∀ x ∈ t, lts p.1 x.1 = true := fun x hx => le_lts e (h1 x hx)
      exact ⟨List.filter_eq_nil_iff.2 fun x h => by simp [lts_asymm (hx x h)], List.filter_eq_self.2 fun x h => by rw [eqs_ne (lts_ne (hx x h)).symm]; rfl, List.filter_eq_self.2 fun x h => hx x h⟩
    simp only [putGo, Bool.not_false, Bool.true_and, Bool.false_or, insT]
    cases e : lts q.1 p.1
    · obtain ⟨a1, a2, a3⟩ := all e
      simp only [Bool.not_false, cond_true, putGo_true]
      rw [List.filter_cons_of_neg (by simp [e]), a1, a2]
      rcases lts_tri p.1 q.1 with g | g | g
      · rw [eqs_ne (lts_ne g).symm, List.filter_cons_of_pos (by simp [g]), a3]; rfl
      · rw [← g, eqs_self, List.filter_cons_of_neg (by rw [← g, lts_irrefl]; simp), a3]; rfl
      · rw [e] at g; cases g
    · have hne : eqs q.1 p.1 = false := eqs_ne (lts_ne e)
      simp only [Bool.not_true, cond_false, hne, Bool.not_false, cond_true, List.nil_append]
      rw [List.filter_cons_of_pos (by simp [e]), List.filter_cons_of_neg (by rw [lts_asymm e]; simp), ih]
      rfl

/-! ## unions -/
/-- the pairs of both, those of the second for keys that both have -/
def uniT {V : Type} (a b : List (B × V)) : List (B × V) := b.foldl (fun t p => insT p t) a

theorem uniT_srt {V : Type} {a : List (B × V)} (b : List (B × V)) (h : Srt a) : Srt (uniT a b) := by
  unfold uniT
  induction b generalizing a with
  | nil => exact h
  | cons p b ih => exact ih (h.insT p)

theorem uniT_fnd {V : Type} {a b : List (B × V)} (hb : Srt b) (k : B) : fnd (uniT a b) k = match fnd b k with | some v => some v | none => fnd a k := by
  unfold uniT
  induction b generalizing a with
  | nil => rfl
  | cons p b ih =>
    obtain ⟨h1, h2⟩ := List.pairwise_cons.1 hb
    rw [List.foldl_cons, ih h2, fnd_insT]
    simp only [fnd]
    cases e : eqs p.1 k
    · rfl
    · have := eqs_iff.1 e; subst this
      rw [fnd_none fun x hx => (lts_ne (h1 x hx)).symm]; rfl

def mrg : Nat → List Pr → List Pr → List Pr
  | 0, _, _ => []
  | _ + 1, [], b => b
  | _ + 1, a, [] => a
  | n + 1, p :: a, q :: b => bif lts p.1 q.1 then p :: mrg n a (q :: b) else bif eqs p.1 q.1 then q :: mrg n a b else q :: mrg n (p :: a) b

theorem mrg_fnd : ∀ (n : Nat) {a b : List Pr}, Srt a → Srt b → a.length + b.length < n → (∀ k, fnd (mrg n a b) k = match fnd b k with | some v => some v | none => fnd a k) ∧ Srt (mrg n a b) ∧ ∀ k, (∀ p ∈ a, lts k p.1 = true) → (∀ p ∈ b, lts k p.1 = true) → ∀ p ∈ mrg n a b, lts k p.1 = true
  | 0, _, _, _, _, h => absurd h (Nat.not_lt_zero _)
  | n + 1, [], b, _, hb, _ => ⟨fun k => by show fnd b k = _; cases fnd b k <;> rfl, hb, fun k _ h => h⟩
  | n + 1, p :: a, [], ha, _, _ => ⟨fun k => rfl, ha, fun k h _ => h⟩
  | n + 1, p :: a, q :: b, ha, hb, hl => by
    obtain ⟨a1, a2⟩ := List.pairwise_cons.1 ha
    obtain ⟨b1, b2⟩ := List.pairwise_cons.1 hb
    simp only [List.length_cons] at hl
    simp only [mrg]
    cases e : lts p.1 q.1
    · cases e2 : eqs p.1 q.1
      · have hne : p.1 ≠ q.1 := fun h => by rw [h, eqs_self] at e2; cases e2
        have hqp : lts q.1 p.1 = true := by
          rcases lts_tri p.1 q.1 with g | g | g
          · rw [e] at g; cases g
          · exact absurd g hne
          · exact g
        obtain ⟨i1, i2, i3⟩ := mrg_fnd n (a := p :: a) (b := b) ha b2 (by simp; omega)
        simp only [cond_false]
        refine ⟨fun k => ?_, List.pairwise_cons.2 ⟨i3 q.1 (fun x hx => ?_) b1, i2⟩, fun k h1 h2 x hx => ?_⟩
        · have := i1 k
          simp only [fnd] at this ⊢
          rw [this]
          cases eqs q.1 k <;> rfl
        · rcases List.mem_cons.1 hx with rfl | hx
          · exact hqp
          · exact lts_trans hqp (a1 x hx)
        · rcases List.mem_cons.1 hx with rfl | hx
          · exact h2 x (by simp)
          · exact i3 k h1 (fun y hy => h2 y (by simp [hy])) x hx
      · have hk := eqs_iff.1 e2
        obtain ⟨i1, i2, i3⟩ := mrg_fnd n (a := a) (b := b) a2 b2 (by omega)
        simp only [cond_false, cond_true]
        refine ⟨fun k => ?_, List.pairwise_cons.2 ⟨i3 q.1 (fun x hx => hk ▸ a1 x hx) b1, i2⟩, fun k h1 h2 x hx => ?_⟩
        · have := i1 k
          simp only [fnd]
          rw [this, hk]
          cases eqs q.1 k <;> rfl
        · rcases List.mem_cons.1 hx with rfl | hx
          · exact h2 x (by simp)
          · exact i3 k (fun y hy => h1 y (by simp [hy])) (fun y hy => h2 y (by simp [hy])) x hx
    · obtain ⟨i1, i2, i3⟩ := mrg_fnd n (a := a) (b := q :: b) a2 hb (by simp; omega)
      simp only [cond_true]
      refine ⟨fun k => ?_, List.pairwise_cons.2 ⟨i3 p.1 a1 (fun x hx => ?_), i2⟩, fun k h1 h2 x hx => ?_⟩
      · have := i1 k
        simp only [fnd] at this ⊢
        rw [this]
        cases e3 : eqs p.1 k
        · rfl
        · have := eqs_iff.1 e3; subst this
          rw [eqs_ne (lts_ne e).symm, fnd_none fun x hx => (lts_ne (lts_trans e (b1 x hx))).symm]; rfl
      · rcases List.mem_cons.1 hx with rfl | hx
        · exact e
        · exact lts_trans e (b1 x hx)
      · rcases List.mem_cons.1 hx with rfl | hx
        · exact h1 x (by simp)
        · exact i3 k (fun y hy => h1 y (by simp [hy])) h2 x hx

theorem cut_tail {α : Type} (x : α) (xs : List α) : cut2 (x :: xs) (1 : Int) ((x :: xs).length : Int) = xs := by
  simp [cut2]

theorem union_l0 (N : Nat) : ∀ (n : Nat) (a b out : List Pr), a.length + b.length < n → out.length + a.length + b.length < 1000000000 →
    ∃ a' b' o', table_Union_l0 N n a b out = some ((a', (b', ())), (o', ())) ∧ o' ++ a' ++ b' = out ++ mrg n a b ∧ o'.length + a'.length + b'.length < 1000000000
  | 0, _, _, _, h, _ => absurd h (Nat.not_lt_zero _)
  | n + 1, [], b, out, h, hl => ⟨[], b, out, by rw [table_Union_l0_succ]; rfl, by simp [mrg], hl⟩
  | n + 1, p :: a, [], out, h, hl => ⟨p :: a, [], out, by rw [table_Union_l0_succ]; simp only [table_Union_l0_step]; rw [bif_f (by simp [eqi]; omega)]; rfl, by simp [mrg], hl⟩
  | n + 1, p :: a, q :: b, out, h, hl => by
    simp only [List.length_cons] at h hl
    rw [table_Union_l0_succ]
    simp only [table_Union_l0_step, rd_zero, cut_tail]
    have z1 : inB 0 (p :: a).length = true := inB_t (by omega) (by simp only [List.length_cons]; omega)
    have z2 : inB 0 (q :: b).length = true := inB_t (by omega) (by simp only [List.length_cons]; omega)
    have z3 : (decide (0 ≤ (1 : Int)) && (decide ((1 : Int) ≤ ((p :: a).length : Int)) && decide (((p :: a).length : Int) ≤ ((p :: a).length : Int)))) = true := by simp; omega
    have z4 : (decide (0 ≤ (1 : Int)) && (decide ((1 : Int) ≤ ((q :: b).length : Int)) && decide (((q :: b).length : Int) ≤ ((q :: b).length : Int)))) = true := by simp; omega
    have z5 : ∀ x : Pr, fits (out.length + ([x] : List Pr).length) 40 = true := fun x => fits_p (by simp; omega) (by omega)
    rw [bif_f (by simp [eqi]; omega), bif_f (by simp [eqi]; omega), gd_t z1, gd_t z2]
    simp only [mrg]
    cases e : lts p.1 q.1
    · rw [cond_false, gd_t z1, gd_t z2]
      cases e2 : eqs p.1 q.1
      · rw [cond_false, gd_t z2, gd_t (z5 q), gd_t z4]
        obtain ⟨a', b', o', i1, i2, i3⟩ := union_l0 N n (p :: a) b (out ++ [q]) (by simp; omega) (by simp; omega)
        exact ⟨a', b', o', i1, by rw [i2]; simp, i3⟩
      · rw [cond_true, gd_t z3, gd_t z2, gd_t (z5 q), gd_t z4]
        obtain ⟨a', b', o', i1, i2, i3⟩ := union_l0 N n a b (out ++ [q]) (by omega) (by simp; omega)
        exact ⟨a', b', o', i1, by rw [i2]; simp, i3⟩
    · rw [cond_true, gd_t z1, gd_t (z5 p), gd_t z3]
      obtain ⟨a', b', o', i1, i2, i3⟩ := union_l0 N n a (q :: b) (out ++ [p]) (by simp; omega) (by simp; omega)
      exact ⟨a', b', o', i1, by rw [i2]; simp, i3⟩

theorem Union_ok (N : Nat) {a b : List Pr} (ha : Srt a) (hb : Srt b) (hN : a.length + b.length < N) (hl : a.length + b.length < 1000000000) : table_Union N a b = some (uniT a b) := by
  have e1 : IntKind.wrap .i64 ((a.length : Int) + (b.length : Int)) = ((a.length + b.length : Nat) : Int) := by rw [w64 (by omega) (by omega)]; omega
  obtain ⟨a', b', o', i1, i2, i3⟩ := union_l0 N N a b [] hN (by simp; omega)
  obtain ⟨m1, m2, _⟩ := mrg_fnd N ha hb hN
  have i1' : table_Union_l0 N N a b (List.replicate (Int.toNat (0 : Int)) D_api_Pair) = some ((a', (b', ())), (o', ())) := i1
  simp only [table_Union, e1, i1']
  have x1 : ((a.length + b.length : Nat) : Int) < (maxB : Int) := by simp only [maxB]; omega
  have x2 : ((a.length + b.length : Nat) : Int) * 40 < (maxB : Int) := by simp only [maxB]; omega
  rw [gd_t (by rw [decide_eq_true x1, decide_eq_true x2, decide_eq_true (show (0 : Int) ≤ ((a.length + b.length : Nat) : Int) by omega)]; rfl), gd_t (fits_p (by omega) (by omega)), gd_t (fits_p (by simp; omega) (by omega))]
  rw [i2, List.nil_append]
  exact congrArg some (Srt.ext m2 (uniT_srt b ha) fun k => by rw [m1, uniT_fnd hb]; cases fnd b k <;> rfl)
end Ds
