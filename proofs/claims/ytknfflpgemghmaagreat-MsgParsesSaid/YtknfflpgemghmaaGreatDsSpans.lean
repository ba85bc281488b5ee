/- Lists of spans: meeting, normal lists, differences, by the keys that they have. -/
import Derived.Test.YtknfflpgemghmaaGreatDsRef
set_option linter.all false
namespace Ds
open Go Go.Dv
set_option maxRecDepth 100000
set_option linter.unusedVariables false

/-! ## ends, and meeting -/
def lessB (a b : B) : Bool := !(eqs a []) && (eqs b [] || lts a b)
theorem less_eq (N : Nat) (a b : B) : ref02_Less N a b = some (lessB a b) := by
  simp only [ref02_Less, lessB]
  cases eqs a [] <;> cases eqs b [] <;> rfl

def maxB' (a b : B) : B := bif !(lts a b) then a else b
def meetR (a b : Sp) : Sp := (maxB' a.1 b.1, bif lessB b.2 a.2 then b.2 else a.2)
def meetB (a b : Sp) : Sp := bif emptyB (meetR a b) then ([97], [97]) else meetR a b

theorem rMeet_ok (N : Nat) (a b : Sp) : ref02_Meet N a b = some (meetB a b) := by
  simp only [ref02_Meet, less_eq, refEmpty_eq, ref02_None, meetB, meetR, maxB']
  cases lessB b.2 a.2
  · simp only [cond_false]
    cases emptyB (bif !lts a.1 b.1 then a.1 else b.1, a.2) <;> rfl
  · simp only [cond_true]
    cases emptyB (bif !lts a.1 b.1 then a.1 else b.1, b.2) <;> rfl

theorem compare_neg (N : Nat) (a b : B) : ∃ r : Int, span_end_compare N a b = some r ∧ decide (r < 0) = lessB a b := by
  simp only [span_end_compare, lessB]
  cases e : eqs a b
  · cases e1 : eqs a []
    · cases e2 : eqs b []
      · simp only [cond_false, cmp_Compare_span_end, cmp_isNaN_span_end, eqs_self, Bool.not_true]
        cases e3 : lts a b
        · simp only [cond_false]
          cases (!(false || eqs a b))
          · exact ⟨0, rfl, rfl⟩
          · exact ⟨1, rfl, rfl⟩
        · exact ⟨-1, rfl, rfl⟩
      · exact ⟨-1, rfl, rfl⟩
    · exact ⟨1, rfl, rfl⟩
  · have := eqs_iff.1 e; subst this
    refine ⟨0, rfl, ?_⟩
    rw [lts_irrefl]
    cases eqs a [] <;> rfl

theorem least_ok (a b : B) : span_least NN [a, b] = some (bif lessB b a then b else a) := by
  obtain ⟨r, h1, h2⟩ := compare_neg NN b a
  have hl : slices_MinFunc_s_span_end_span_end__span_end_compare_l0 NN NN [a, b] a (1 : Int) = some ((bif lessB b a then b else a), ()) := by
    have i1 : inB (1 : Int) ([a, b] : List B).length = true := rfl
    have r1 : rdL [a, b] (1 : Int) ([] : B) = b := rfl
    have w1 : IntKind.wrap .i64 ((1 : Int) + (1 : Int)) = 2 := by decide
    rw [show NN = 999998 + 2 from rfl, slices_MinFunc_s_span_end_span_end__span_end_compare_l0_succ]
    simp only [slices_MinFunc_s_span_end_span_end__span_end_compare_l0_step, i1, r1, w1]
    rw [bif_t (by rfl), gd_t rfl]
    rw [show span_end_compare (999998 + 2) b a = some r from h1]
    simp only [h2]
    cases lessB b a
    · simp only [cond_false]
      rw [slices_MinFunc_s_span_end_span_end__span_end_compare_l0_succ]
      simp only [slices_MinFunc_s_span_end_span_end__span_end_compare_l0_step]
      rw [bif_f (by rfl)]
    · simp only [cond_true]
      rw [gd_t rfl, slices_MinFunc_s_span_end_span_end__span_end_compare_l0_succ]
      simp only [slices_MinFunc_s_span_end_span_end__span_end_compare_l0_step]
      rw [bif_f (by rfl)]
  have r0 : rdL [a, b] (0 : Int) ([] : B) = a := rfl
  simp only [span_least, slices_MinFunc_s_span_end_span_end__span_end_compare, r0, hl]
  rw [bif_f (by rfl), gd_t (by rfl)]

theorem Meet_ok (a b : Sp) : span_Meet NN a b = some (meetB a b) := by
  simp only [span_Meet, least_ok, empty_eq, meetB, meetR, maxB']
  cases emptyB (bif !lts a.1 b.1 then a.1 else b.1, bif lessB b.2 a.2 then b.2 else a.2) <;> rfl

/-- below an end -/
def belowB (k h : B) : Bool := eqs h [] || lts k h
theorem hasB_eq (s : Sp) (k : B) : hasB s k = (!(lts k s.1) && belowB k s.2) := by
  simp only [hasB, belowB]
  cases lts k s.1 <;> cases eqs s.2 [] <;> rfl

theorem max_lts (a b k : B) : lts k (maxB' a b) = (lts k a || lts k b) := by
  unfold maxB'
  cases e : lts a b
  · simp only [Bool.not_false, cond_true]
    cases e2 : lts k b
    · simp
    · rw [lts_le e2 e]; rfl
  · simp only [Bool.not_true, cond_false]
    cases e2 : lts k a
    · rfl
    · rw [lts_trans e2 e]; rfl

theorem belowB_less {a b k : B} (h : lessB a b = true) (hk : belowB k a = true) : belowB k b = true := by
  simp only [lessB, belowB, Bool.and_eq_true, Bool.or_eq_true, Bool.not_eq_true'] at h hk ⊢
  obtain ⟨h1, h2⟩ := h
  rcases hk with hk | hk
  · rw [h1] at hk; cases hk
  · rcases h2 with h2 | h2
    · exact .inl h2
    · exact .inr (lts_trans hk h2)
theorem belowB_nless {a b k : B} (h : lessB a b = false) (hk : belowB k b = true) : belowB k a = true := by
  simp only [lessB, belowB, Bool.or_eq_true, Bool.and_eq_false_iff, Bool.or_eq_false_iff, Bool.not_eq_false'] at h hk ⊢
  rcases h with h | ⟨h1, h2⟩
  · exact .inl h
  · rcases hk with hk | hk
    · rw [h1] at hk; cases hk
    · exact .inr (lts_le hk h2)

theorem min_below (a b k : B) : belowB k (bif lessB b a then b else a) = (belowB k a && belowB k b) := by
  cases e : lessB b a
  · simp only [cond_false]
    cases e2 : belowB k a
    · rfl
    · rw [belowB_nless e e2]; rfl
  · simp only [cond_true]
    cases e2 : belowB k b
    · simp
    · rw [belowB_less e e2]; rfl

theorem meet_has (a b : Sp) (k : B) : hasB (meetB a b) k = (hasB a k && hasB b k) := by
  have h : hasB (meetR a b) k = (hasB a k && hasB b k) := by
    rw [hasB_eq, hasB_eq, hasB_eq]
    simp only [meetR, max_lts, min_below]
    cases lts k a.1 <;> cases lts k b.1 <;> cases belowB k a.2 <;> cases belowB k b.2 <;> rfl
  unfold meetB
  cases e : emptyB (meetR a b)
  · exact h
  · rw [← h, empty_no e, cond_true, empty_no (by decide)]

theorem meet_none {a b : Sp} (h : emptyB (meetB a b) = true) (k : B) : (hasB a k && hasB b k) = false := by
  rw [← meet_has, empty_no h]

/-! ## inserting a span -/
def sMid (s : Sp) : Bool → List Sp → List Sp
  | _, [] => []
  | d, q :: l => bif !d && lts s.1 q.1 then s :: q :: sMid s true l else q :: sMid s d l
def sDone (s : Sp) : Bool → List Sp → Bool
  | d, [] => d
  | d, q :: l => bif !d && lts s.1 q.1 then sDone s true l else sDone s d l
def sIns (s : Sp) (l : List Sp) : List Sp := sMid s (emptyB s) l ++ bif sDone s (emptyB s) l then [] else [s]

theorem sMid_true (s : Sp) : ∀ l, sMid s true l = l ∧ sDone s true l = true
  | [] => ⟨rfl, rfl⟩
  | q :: l => by
    obtain ⟨h1, h2⟩ := sMid_true s l
    simp [sMid, sDone, h1, h2]

theorem sMid_len (s : Sp) : ∀ (l : List Sp), (sMid s false l).length ≤ l.length + 1 ∧ (sMid s false l).length + (bif sDone s false l then 0 else 1) ≤ l.length + 1
  | [] => by simp [sMid, sDone]
  | q :: l => by
    have i1 := sMid_true s l
    obtain ⟨i2, i3⟩ := sMid_len s l
    simp only [sMid, sDone, Bool.not_false, Bool.true_and]
    cases lts s.1 q.1
    · simp only [cond_false, List.length_cons]
      omega
    · simp only [cond_true, i1.1, i1.2, List.length_cons]
      omega
theorem sIns_len (s : Sp) (l : List Sp) : (sMid s (emptyB s) l).length ≤ l.length + 1 ∧ (sIns s l).length ≤ l.length + 1 := by
  unfold sIns
  cases emptyB s
  · obtain ⟨i2, i3⟩ := sMid_len s l
    refine ⟨i2, ?_⟩
    rw [List.length_append]
    cases e : sDone s false l <;> rw [e] at i3 <;> simp only [cond_true, cond_false, List.length_nil, List.length_cons] at i3 ⊢ <;> omega
  · obtain ⟨i1, i2⟩ := sMid_true s l
    rw [i1, i2]
    simp

theorem insert_l0 (N : Nat) (s : Sp) : ∀ (post pre : List Sp) (n : Nat) (d : Bool) (out : List Sp), post.length < n → Big (pre ++ post).length → out.length + 2 * post.length < 1000000 →
    ref02_insert_l0 N n (pre ++ post) d (pre.length : Int) s.1 s.2 out = some (((), ((), sDone s d post)), ((s.1, s.2), (out ++ sMid s d post, ())))
  | _, _, 0, _, _, h, _, _ => absurd h (Nat.not_lt_zero _)
  | [], pre, n + 1, d, out, _, _, _ => by
    rw [ref02_insert_l0_succ]
    simp only [ref02_insert_l0_step, List.append_nil, Int.lt_irrefl, decide_false, cond_false, sDone, sMid]
  | q :: post, pre, n + 1, d, out, hn, hl, ho => by
    simp only [List.length_cons] at hn ho
    have hl' : pre.length < 9223372036854775807 := by simp [Big] at hl; omega
    have ih := fun d out => insert_l0 N s post (pre ++ [q]) n d out (by omega) (by simpa using hl)
    rw [ref02_insert_l0_succ]
    simp only [ref02_insert_l0_step, lt_mid, in_mid, cond_true, rd_mid]
    cases d
    · simp only [Bool.not_false, cond_true]
      rw [gd_t rfl]
      cases e : lts s.1 q.1
      · simp only [cond_false]
        rw [gd_t rfl, gd_t (fits_p (by omega) (by omega)), wr_mid (q := q) hl', app_mid (pre := pre) (q := q) (post := post), ih false (out ++ [q]) (by simp; omega)]
        simp [sMid, sDone, e]
      · simp only [cond_true]
        rw [gd_t (fits_p (by omega) (by omega)), gd_t rfl, gd_t (fits_p (by simp; omega) (by omega)), wr_mid (q := q) hl', app_mid (pre := pre) (q := q) (post := post), ih true (out ++ [(s.1, s.2)] ++ [q]) (by simp; omega)]
        simp [sMid, sDone, e]
    · simp only [Bool.not_true, cond_false]
      rw [gd_t rfl, gd_t (fits_p (by omega) (by omega)), wr_mid (q := q) hl', app_mid (pre := pre) (q := q) (post := post), ih true (out ++ [q]) (by simp; omega)]
      simp [sMid, sDone]

theorem insert_ok (N : Nat) (l : List Sp) (s : Sp) (hN : l.length < N) (hl : l.length < 100000) : ref02_insert N l s = some (sIns s l) := by
  have h := insert_l0 N s l [] N (emptyB s) [] hN (by simp only [List.nil_append, Big]; omega) (by simp; omega)
  have hz : (([] : List Sp).length : Int) = 0 := rfl
  simp only [List.nil_append, hz] at h
  have hm := (sIns_len s l).1
  simp only [ref02_insert, refEmpty_eq, h, sIns]
  cases sDone s (emptyB s) l
  · simp only [Bool.not_false, cond_true, cond_false]
    rw [gd_t (fits_p (by omega) (by omega))]
  · simp

/-- spans that have keys, in the order of their beginnings -/
structure Nrm (l : List Sp) : Prop where
  ord : l.Pairwise fun a b => lts b.1 a.1 = false
  full : ∀ s ∈ l, emptyB s = false

theorem sIns_false (s : Sp) : ∀ l : List Sp, Nrm l → emptyB s = false → Nrm (sMid s false l ++ bif sDone s false l then [] else [s]) ∧ (∀ x, x ∈ (sMid s false l ++ bif sDone s false l then [] else [s]) ↔ x = s ∨ x ∈ l)
  | [], h, hs => ⟨⟨by simp [sMid, sDone], fun x hx => by simp [sMid, sDone] at hx; rw [hx]; exact hs⟩, fun x => by simp [sMid, sDone]⟩
  | q :: l, h, hs => by
    obtain ⟨o1, o2⟩ := List.pairwise_cons.1 h.ord
    cases e : lts s.1 q.1
    · obtain ⟨i1, i2⟩ := sIns_false s l ⟨o2, fun x hx => h.full x (by simp [hx])⟩ hs
      have e1 : (sMid s false (q :: l) ++ bif sDone s false (q :: l) then [] else [s]) = q :: (sMid s false l ++ bif sDone s false l then [] else [s]) := by simp [sMid, sDone, e]
      rw [e1]
      refine ⟨⟨List.pairwise_cons.2 ⟨fun x hx => ?_, i1.ord⟩, fun x hx => ?_⟩, fun x => ?_⟩
      · rcases (i2 x).1 hx with rfl | hx
        · exact e
        · exact o1 x hx
      · rcases List.mem_cons.1 hx with rfl | hx
        · exact h.full _ (by simp)
        · exact i1.full x hx
      · rw [List.mem_cons, i2, List.mem_cons]
        constructor
        · rintro (h | h | h)
          · exact .inr (.inl h)
          · exact .inl h
          · exact .inr (.inr h)
        · rintro (h | h | h)
          · exact .inr (.inl h)
          · exact .inl h
          · exact .inr (.inr h)
    · obtain ⟨m1, m2⟩ := sMid_true s l
      have e1 : (sMid s false (q :: l) ++ bif sDone s false (q :: l) then [] else [s]) = s :: q :: l := by simp [sMid, sDone, e, m1, m2]
      rw [e1]
      refine ⟨⟨List.pairwise_cons.2 ⟨fun x hx => ?_, h.ord⟩, fun x hx => ?_⟩, fun x => List.mem_cons⟩
      · rcases List.mem_cons.1 hx with rfl | hx
        · exact lts_asymm e
        · cases e2 : lts x.1 s.1
          · rfl
          · have := lts_trans e2 e; rw [o1 x hx] at this; cases this
      · rcases List.mem_cons.1 hx with rfl | hx
        · exact hs
        · exact h.full x hx

theorem sIns_ok (s : Sp) {l : List Sp} (h : Nrm l) : Nrm (sIns s l) ∧ (∀ k, inS (sIns s l) k = (inS l k || hasB s k)) ∧ (sIns s l).length ≤ l.length + 1 := by
  have hlen := (sIns_len s l).2
  cases e : emptyB s
  · obtain ⟨i1, i2⟩ := sIns_false s l h e
    have e1 : sIns s l = (sMid s false l ++ bif sDone s false l then [] else [s]) := by unfold sIns; rw [e]
    rw [e1] at hlen ⊢
    refine ⟨i1, fun k => ?_, hlen⟩
    rw [Bool.eq_iff_iff]
    simp only [inS, List.any_eq_true, Bool.or_eq_true]
    constructor
    · rintro ⟨x, hx, hk⟩
      rcases (i2 x).1 hx with rfl | hx
      · exact .inr hk
      · exact .inl ⟨x, hx, hk⟩
    · rintro (⟨x, hx, hk⟩ | hk)
      · exact ⟨x, (i2 x).2 (.inr hx), hk⟩
      · exact ⟨s, (i2 s).2 (.inl rfl), hk⟩
  · obtain ⟨m1, m2⟩ := sMid_true s l
    have e1 : sIns s l = l := by unfold sIns; rw [e, m1, m2]; simp
    rw [e1]
    exact ⟨h, fun k => by rw [empty_no e, Bool.or_false], by omega⟩

/-! ## normal lists -/
def mstep (out : List Sp) (s : Sp) : List Sp := match out.getLast? with
  | none => [s]
  | some o => bif !(eqs o.2 []) && lts o.2 s.1 then out ++ [s] else bif lessB o.2 s.2 then out.dropLast ++ [(o.1, s.2)] else out

theorem inS_append (a b : List Sp) (k : B) : inS (a ++ b) k = (inS a k || inS b k) := by simp [inS, List.any_append]
theorem inS1 (s : Sp) (k : B) : inS [s] k = hasB s k := by simp [inS]

theorem merge_has {o s : Sp} (h1 : lts s.1 o.1 = false) (h2 : (!(eqs o.2 []) && lts o.2 s.1) = false) (k : B) : (hasB o k || hasB s k) = (bif lessB o.2 s.2 then hasB (o.1, s.2) k else hasB o k) := by
  have A : lts k o.1 = true → lts k s.1 = true := fun h => lts_le h h1
  have Bn : lts k s.1 = true → belowB k o.2 = true := fun h => by
    simp only [Bool.and_eq_false_iff, Bool.not_eq_false'] at h2
    simp only [belowB, Bool.or_eq_true]
    rcases h2 with h2 | h2
    · exact .inl h2
    · exact .inr (lts_le h h2)
  rw [hasB_eq, hasB_eq, hasB_eq]
  cases e : lessB o.2 s.2
  · have C : belowB k s.2 = true → belowB k o.2 = true := fun h => belowB_nless e h
    simp only [cond_false]
    revert A Bn C
    cases lts k o.1 <;> cases lts k s.1 <;> cases belowB k o.2 <;> cases belowB k s.2 <;> simp
  · have C : belowB k o.2 = true → belowB k s.2 = true := fun h => belowB_less e h
    simp only [cond_true]
    revert A Bn C
    cases lts k o.1 <;> cases lts k s.1 <;> cases belowB k o.2 <;> cases belowB k s.2 <;> simp

theorem merge_ok : ∀ (post out : List Sp), post.Pairwise (fun a b => lts b.1 a.1 = false) → (∀ o, out.getLast? = some o → ∀ s ∈ post, lts s.1 o.1 = false) → (∀ k, inS (post.foldl mstep out) k = (inS out k || inS post k)) ∧ (post.foldl mstep out).length ≤ out.length + post.length
  | [], out, _, _ => ⟨fun k => by simp [inS], by simp⟩
  | s :: post, out, hp, ho => by
    obtain ⟨p1, p2⟩ := List.pairwise_cons.1 hp
    have key : (∀ k, inS (mstep out s) k = (inS out k || hasB s k)) ∧ (∀ o, (mstep out s).getLast? = some o → ∀ x ∈ post, lts x.1 o.1 = false) ∧ (mstep out s).length ≤ out.length + 1 := by
      unfold mstep
      cases e : out.getLast? with
      | none =>
        have : out = [] := List.getLast?_eq_none_iff.1 e
        subst this
        exact ⟨fun k => by simp [inS], fun o h x hx => by simp at h; subst h; exact p1 x hx, by simp⟩
      | some o =>
        obtain ⟨ini, rfl⟩ : ∃ ini, out = ini ++ [o] := List.getLast?_eq_some_iff.1 e
        have hos := ho o e s (by simp)
        simp only
        cases e1 : (!(eqs o.2 []) && lts o.2 s.1)
        · have hm := merge_has hos e1
          simp only [cond_false]
          cases e2 : lessB o.2 s.2
          · simp only [e2, cond_false] at hm ⊢
            refine ⟨fun k => ?_, fun o' h x hx => ?_, by simp⟩
            · rw [inS_append, inS1, ← hm k]
              cases inS ini k <;> cases hasB o k <;> cases hasB s k <;> rfl
            · rw [e] at h; cases h
              exact ho o e x (by simp [hx])
          · simp only [e2, cond_true] at hm ⊢
            rw [List.dropLast_concat]
            refine ⟨fun k => ?_, fun o' h x hx => ?_, by simp⟩
            · rw [inS_append, inS_append, inS1, inS1, ← hm k, Bool.or_assoc]
            · simp at h; subst h
              exact ho o e x (by simp [hx])
        · simp only [cond_true]
          refine ⟨fun k => by rw [inS_append, inS1], fun o' h x hx => ?_, by simp⟩
          simp at h; subst h
          exact p1 x hx
    obtain ⟨k1, k2, k3⟩ := key
    obtain ⟨i1, i2⟩ := merge_ok post (mstep out s) p2 k2
    refine ⟨fun k => ?_, ?_⟩
    · rw [List.foldl_cons, i1, k1]
      simp [inS, Bool.or_assoc]
    · rw [List.foldl_cons]; simp only [List.length_cons]; omega

theorem norm_p2 (N : Nat) {i : Int} {b : Bool} {sorted : List Sp} {s o : Sp} {ini : List Sp} (hi : inB i sorted.length = true) (hr : rdL sorted i D_api_Span = s) (hl : ini.length < 1000000) :
    ref02_Norm_p2 N i (ini.length : Int) b sorted (ini ++ [o]) = some (((), ((), i)), (sorted, ((bif b then ini ++ [o] ++ [s] else bif lessB o.2 s.2 then ini ++ [(o.1, s.2)] else ini ++ [o]), ()))) := by
  simp only [ref02_Norm_p2, hr, in_mid, rd_mid, set_mid, less_eq]
  cases b
  · simp only [cond_false]
    rw [gd_t rfl, gd_t hi]
    cases lessB o.2 s.2
    · rfl
    · simp only [cond_true]
      rw [gd_t hi, gd_t rfl]
  · simp only [cond_true]
    rw [gd_t hi, gd_t (fits_p (by simp; omega) (by omega))]

theorem norm_l1 (N : Nat) {sorted : List Sp} (hN : sorted.length < N) (hl : sorted.length < 100000) : ref02_Norm_l1 N N (0 : Int) sorted [] = some ((), (sorted.foldl mstep [], ())) := by
  refine walk0 (xs := sorted) (L := fun n i s => ref02_Norm_l1 N n i sorted s) mstep (fun s => ((), (s, ()))) (fun s post => s.length + post.length ≤ 100000)
    (fun n s _ => by
      rw [ref02_Norm_l1_succ]
      simp only [ref02_Norm_l1_step, Int.lt_irrefl, decide_false, cond_false])
    (fun n pre x post s hx hi => ?_) hN (by simp; omega)
  simp only [List.length_cons] at hi
  have hb : pre.length < 9223372036854775807 := by rw [hx] at hl; simp at hl; omega
  have hlen : (mstep s x).length ≤ s.length + 1 := by
    unfold mstep
    split
    · simp
    · rename_i o _
      cases (!(eqs o.2 []) && lts o.2 x.1)
      · cases lessB o.2 x.2
        · simp
        · simp only [cond_true, cond_false, List.length_append, List.length_dropLast, List.length_cons, List.length_nil]; omega
      · simp
  rw [ref02_Norm_l1_succ]
  rw [hx]
  simp only [ref02_Norm_l1_step, lt_mid, in_mid, cond_true, rd_mid]
  cases e : s.getLast? with
  | none =>
    have : s = [] := List.getLast?_eq_none_iff.1 e
    subst this
    have w : IntKind.wrap .i64 ((([] : List Sp).length : Int) - (1 : Int)) = -1 := by decide
    have p2 : ref02_Norm_p2 N (pre.length : Int) (-1) true (pre ++ x :: post) [] = some (((), ((), (pre.length : Int))), (pre ++ x :: post, ([x], ()))) := by
      simp only [ref02_Norm_p2, cond_true, in_mid, rd_mid]
      rw [gd_t rfl, gd_t (fits_p (by simp) (by omega))]
      rfl
    rw [w, bif_t (by decide), p2]
    simp only
    rw [wr_mid (q := x) hb]
    exact ⟨rfl, by simp [mstep]; simp at hi; omega⟩
  | some o =>
    obtain ⟨ini, rfl⟩ : ∃ ini, s = ini ++ [o] := List.getLast?_eq_some_iff.1 e
    have hil : ini.length < 100000 := by simp at hi; omega
    have w : IntKind.wrap .i64 (((ini ++ [o]).length : Int) - (1 : Int)) = (ini.length : Int) := by
      rw [w64 (by simp only [List.length_append, List.length_cons, List.length_nil]; omega) (by simp only [List.length_append, List.length_cons, List.length_nil]; omega)]; simp
    have p2 := fun b => norm_p2 N (i := (pre.length : Int)) (b := b) (sorted := pre ++ x :: post) (s := x) (o := o) (ini := ini) in_mid rd_mid (by omega)
    have hms : mstep (ini ++ [o]) x = (bif !(eqs o.2 []) && lts o.2 x.1 then ini ++ [o] ++ [x] else bif lessB o.2 x.2 then ini ++ [(o.1, x.2)] else ini ++ [o]) := by
      unfold mstep
      rw [e]
      simp only [List.dropLast_concat]
    rw [w, bif_f (by simp), in_mid, rd_mid, gd_t rfl, hms]
    rw [hms] at hlen
    cases e1 : eqs o.2 []
    · simp only [e1, Bool.not_false, cond_true, Bool.true_and] at hlen ⊢
      rw [gd_t rfl, gd_t rfl, p2]
      simp only
      rw [wr_mid (q := x) hb]
      exact ⟨rfl, by omega⟩
    · simp only [e1, Bool.not_true, cond_false, Bool.false_and] at hlen ⊢
      rw [p2]
      simp only
      rw [wr_mid (q := x) hb]
      exact ⟨rfl, by omega⟩

theorem Norm_ok (N : Nat) {l : List Sp} (hN : l.length < N) (hl : l.length < 20000) : ∃ r, ref02_Norm N l = some r ∧ (∀ k, inS r k = inS l k) ∧ r.length ≤ l.length := by
  have h0 := walk (xs := l) (L := fun n i (s : List Sp) => ref02_Norm_l0 N n l i s []) (fun o x => sIns x o) (fun s => (((), ()), (s, ([], ())))) (fun s post => Nrm s ∧ s.length + post.length ≤ l.length)
    (fun n s _ => by
      rw [ref02_Norm_l0_succ]
      simp only [ref02_Norm_l0_step, Int.lt_irrefl, decide_false, cond_false])
    (fun n pre x post s hx hi => by
      obtain ⟨h1, h2⟩ := hi
      simp only [List.length_cons] at h2
      have hb : pre.length < 9223372036854775807 := by rw [hx] at hl; simp at hl; omega
      have hbl := congrArg List.length hx
      obtain ⟨i1, _, i3⟩ := sIns_ok x h1
      rw [ref02_Norm_l0_succ]
      rw [hx]
      simp only [ref02_Norm_l0_step, lt_mid, in_mid, cond_true, rd_mid, insert_ok N s x (by omega) (by omega)]
      rw [gd_t rfl, wr_mid (q := x) hb]
      exact ⟨rfl, i1, by omega⟩)
    l [] N [] rfl hN ⟨⟨List.Pairwise.nil, fun s h => by cases h⟩, by simp⟩
  have hz : (([] : List Sp).length : Int) = 0 := rfl
  simp only [hz] at h0
  obtain ⟨e0, n1, n2⟩ := h0
  have sem : ∀ (post s : List Sp), Nrm s → ∀ k, inS (post.foldl (fun o x => sIns x o) s) k = (inS s k || inS post k) := by
    intro post
    induction post with
    | nil => intro s _ k; simp [inS]
    | cons x post ih =>
      intro s hs k
      obtain ⟨i1, i2, _⟩ := sIns_ok x hs
      rw [List.foldl_cons, ih _ i1, i2]
      simp [inS, Bool.or_assoc]
  have sm := sem l [] ⟨List.Pairwise.nil, fun s h => by cases h⟩
  generalize l.foldl (fun o x => sIns x o) [] = sorted at e0 n1 n2 sm
  simp only [List.length_nil, Nat.add_zero] at n2
  obtain ⟨m1, m2⟩ := merge_ok sorted [] n1.ord (fun o h => by simp at h)
  have e1 := norm_l1 N (sorted := sorted) (by omega) (by omega)
  refine ⟨sorted.foldl mstep [], by simp only [ref02_Norm, e0, e1], fun k => ?_, by simp at m2; omega⟩
  rw [m1, sm]
  simp [inS]

/-! ## differences -/
def minus1 (q : Sp) (out : List Sp) (x : Sp) : List Sp := out ++ ((bif eqs q.1 [] then [] else [meetB x ([], q.1)]) ++ bif eqs q.2 [] then [] else [meetB x (q.2, [])])

theorem minus1_has {q : Sp} (hq : emptyB q = false) (x : Sp) (k : B) : inS ((bif eqs q.1 [] then [] else [meetB x ([], q.1)]) ++ bif eqs q.2 [] then [] else [meetB x (q.2, [])]) k = (hasB x k && !(hasB q k)) := by
  have e1 : inS (bif eqs q.1 [] then [] else [meetB x ([], q.1)]) k = (hasB x k && lts k q.1) := by
    cases e : eqs q.1 []
    · simp only [cond_false]
      rw [inS1, meet_has, hasB_eq ([], q.1)]
      simp only [lts_nil, belowB, e, Bool.not_false, Bool.true_and, Bool.false_or]
    · rw [eqs_iff.1 e, lts_nil]; simp [inS]
  have e2 : inS (bif eqs q.2 [] then [] else [meetB x (q.2, [])]) k = (hasB x k && !(belowB k q.2)) := by
    cases e : eqs q.2 []
    · simp only [cond_false]
      rw [inS1, meet_has, hasB_eq (q.2, [])]
      simp only [belowB, e, eqs_self, Bool.true_or, Bool.and_true, Bool.false_or]
    · simp [inS, belowB, e]
  have C : lts k q.1 = true → belowB k q.2 = true := fun h => by
    simp only [emptyB, Bool.and_eq_false_iff, Bool.or_eq_false_iff, Bool.not_eq_false'] at hq
    simp only [belowB, Bool.or_eq_true]
    rcases hq with hq | ⟨hq, _⟩
    · exact .inl hq
    · exact .inr (lts_le h hq)
  rw [inS_append, e1, e2, hasB_eq q]
  revert C
  cases hasB x k <;> cases lts k q.1 <;> cases belowB k q.2 <;> simp

theorem minus_l1 (N : Nat) {pm post' : List Sp} {q : Sp} (left : List Sp) (hN : left.length < N) (hl : left.length < 10000) :
    ref02_Minus_l1 N N (pm ++ q :: post') (pm.length : Int) (0 : Int) left [] = some ((pm ++ q :: post', ((pm.length : Int), ())), (left.foldl (minus1 q) [], ())) := by
  refine walk0 (xs := left) (L := fun n i s => ref02_Minus_l1 N n (pm ++ q :: post') (pm.length : Int) i left s) (minus1 q) (fun s => ((pm ++ q :: post', ((pm.length : Int), ())), (s, ()))) (fun s post => s.length + 2 * post.length ≤ 20000)
    (fun n s _ => by
      rw [ref02_Minus_l1_succ]
      simp only [ref02_Minus_l1_step, Int.lt_irrefl, decide_false, cond_false])
    (fun n pre x post s hx hi => ?_) hN (by simp; omega)
  simp only [List.length_cons] at hi
  have hb : pre.length < 9223372036854775807 := by rw [hx] at hl; simp at hl; omega
  have hlen : (minus1 q s x).length ≤ s.length + 2 := by
    unfold minus1
    cases eqs q.1 [] <;> cases eqs q.2 [] <;> simp
  refine ⟨?_, by omega⟩
  rw [ref02_Minus_l1_succ]
  rw [hx]
  simp only [ref02_Minus_l1_step, lt_mid, in_mid, cond_true, rd_mid, rMeet_ok]
  rw [gd_t rfl]
  cases e1 : eqs q.1 []
  · simp only [Bool.not_false, cond_true]
    rw [gd_t rfl, gd_t rfl, gd_t (fits_p (by omega) (by omega)), gd_t rfl]
    cases e2 : eqs q.2 []
    · simp only [Bool.not_false, cond_true]
      rw [gd_t rfl, gd_t rfl, gd_t (fits_p (by simp; omega) (by omega)), wr_mid (q := x) hb]
      simp [minus1, e1, e2]
    · simp only [Bool.not_true, cond_false]
      rw [wr_mid (q := x) hb]
      simp [minus1, e1, e2]
  · simp only [Bool.not_true, cond_false]
    rw [gd_t rfl]
    cases e2 : eqs q.2 []
    · simp only [Bool.not_false, cond_true]
      rw [gd_t rfl, gd_t rfl, gd_t (fits_p (by omega) (by omega)), wr_mid (q := x) hb]
      simp [minus1, e1, e2]
    · simp only [Bool.not_true, cond_false]
      rw [wr_mid (q := x) hb]
      simp [minus1, e1, e2]

theorem minus_l0 (m : List Sp) : ∀ (post pre : List Sp) (n : Nat) (left : List Sp), post.length < n → (pre ++ post).length < 1000 → left.length * 2 ^ post.length ≤ 5000 →
    ∃ r, ref02_Minus_l0 NN n (pre ++ post) (pre.length : Int) left = some ((), (r, ())) ∧ (∀ k, inS r k = (inS left k && !(inS post k))) ∧ r.length ≤ left.length * 2 ^ post.length
  | _, _, 0, _, h, _, _ => absurd h (Nat.not_lt_zero _)
  | [], pre, n + 1, left, _, _, _ => by
    refine ⟨left, ?_, fun k => by simp [inS], by simp⟩
    rw [ref02_Minus_l0_succ]
    simp only [ref02_Minus_l0_step, List.append_nil, Int.lt_irrefl, decide_false, cond_false]
  | q :: post, pre, n + 1, left, hn, hl, hp => by
    simp only [List.length_cons] at hn hp
    have hb : pre.length < 9223372036854775807 := by simp at hl; omega
    have e2 : (2 : Nat) ^ (post.length + 1) = 2 * 2 ^ post.length := by rw [Nat.pow_succ]; omega
    have hpos : 0 < (2 : Nat) ^ post.length := Nat.pow_pos (by omega)
    have h2 : left.length * 2 * 2 ^ post.length = left.length * 2 ^ (post.length + 1) := by rw [e2, Nat.mul_assoc]
    have h1 : left.length * 1 ≤ left.length * 2 ^ (post.length + 1) := Nat.mul_le_mul_left _ (by rw [e2]; omega)
    cases e : emptyB q
    · have hm := minus_l1 NN (pm := pre) (post' := post) (q := q) left (by simp only [NN]; omega) (by omega)
      have sem : ∀ (l out : List Sp), (∀ k, inS (l.foldl (minus1 q) out) k = (inS out k || (inS l k && !(hasB q k)))) ∧ (l.foldl (minus1 q) out).length ≤ out.length + 2 * l.length := by
        intro l
        induction l with
        | nil => intro out; exact ⟨fun k => by simp [inS], by simp⟩
        | cons x l ih =>
          intro out
          obtain ⟨i1, i2⟩ := ih (minus1 q out x)
          have hlen : (minus1 q out x).length ≤ out.length + 2 := by
            unfold minus1
            cases eqs q.1 [] <;> cases eqs q.2 [] <;> simp
          refine ⟨fun k => ?_, ?_⟩
          · rw [List.foldl_cons, i1]
            unfold minus1
            rw [inS_append, minus1_has e]
            have : inS (x :: l) k = (hasB x k || inS l k) := by simp [inS]
            rw [this]
            cases inS out k <;> cases hasB x k <;> cases inS l k <;> cases hasB q k <;> rfl
          · rw [List.foldl_cons]; simp only [List.length_cons]; omega
      obtain ⟨s1, s2⟩ := sem left []
      simp only [List.length_nil, Nat.zero_add] at s2
      obtain ⟨r, r1, r2, r3⟩ := Norm_ok NN (l := left.foldl (minus1 q) []) (by simp only [NN]; omega) (by omega)
      have hr : r.length * 2 ^ post.length ≤ left.length * 2 * 2 ^ post.length := Nat.mul_le_mul_right _ (by omega)
      obtain ⟨r', i1, i2, i3⟩ := minus_l0 m post (pre ++ [q]) n r (by omega) (by simpa using hl) (by omega)
      refine ⟨r', ?_, fun k => ?_, by simp only [List.length_cons]; omega⟩
      · rw [ref02_Minus_l0_succ]
        simp only [ref02_Minus_l0_step, lt_mid, in_mid, cond_true, rd_mid, refEmpty_eq, e, cond_false, hm, r1]
        rw [gd_t rfl, wr_mid (q := q) hb, app_mid (pre := pre) (q := q) (post := post), i1]
      · rw [i2, r2, s1]
        have : inS (q :: post) k = (hasB q k || inS post k) := by simp [inS]
        rw [this]
        have z : inS [] k = false := rfl
        rw [z]
        cases inS left k <;> cases hasB q k <;> cases inS post k <;> rfl
    · have hr : left.length * 2 ^ post.length ≤ left.length * 2 * 2 ^ post.length := Nat.mul_le_mul_right _ (by omega)
      obtain ⟨r', i1, i2, i3⟩ := minus_l0 m post (pre ++ [q]) n left (by omega) (by simpa using hl) (by omega)
      refine ⟨r', ?_, fun k => ?_, by simp only [List.length_cons]; omega⟩
      · rw [ref02_Minus_l0_succ]
        simp only [ref02_Minus_l0_step, lt_mid, in_mid, cond_true, rd_mid, refEmpty_eq, e]
        rw [gd_t rfl, wr_mid (q := q) hb, app_mid (pre := pre) (q := q) (post := post), i1]
      · rw [i2]
        have : inS (q :: post) k = (hasB q k || inS post k) := by simp [inS]
        rw [this, empty_no e, Bool.false_or]

theorem Minus_ok {l m : List Sp} (hm : m.length < 1000) (hl : l.length * 2 ^ m.length ≤ 5000) : ∃ r, ref02_Minus NN l m = some r ∧ (∀ k, inS r k = (inS l k && !(inS m k))) ∧ r.length ≤ l.length * 2 ^ m.length := by
  have hpos : 0 < (2 : Nat) ^ m.length := Nat.pow_pos (by omega)
  have h1 : l.length * 1 ≤ l.length * 2 ^ m.length := Nat.mul_le_mul_left _ hpos
  obtain ⟨r, r1, r2, r3⟩ := Norm_ok NN (l := l) (by simp only [NN]; omega) (by omega)
  have h2 : r.length * 2 ^ m.length ≤ l.length * 2 ^ m.length := Nat.mul_le_mul_right _ r3
  obtain ⟨r', i1, i2, i3⟩ := minus_l0 m m [] NN r (by simp only [NN]; omega) (by simpa using hm) (by omega)
  have hz : (([] : List Sp).length : Int) = 0 := rfl
  simp only [List.nil_append, hz] at i1
  exact ⟨r', by simp only [ref02_Minus, r1, i1], fun k => by rw [i2, r2], by omega⟩
end Ds
