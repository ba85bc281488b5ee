/- NodeSpans: the spans of kids part the span of the node. -/
import Derived.Test.YtpgikdaeicidaaaGreatDoorDsMade
set_option linter.all false
namespace Ds
open Go Go.Dv
set_option maxRecDepth 100000
set_option linter.unusedVariables false

/-! ## spans by two bytes -/
theorem pref_ok {n : Int} (h0 : 0 ≤ n) (h1 : n < 256) : ∃ p, ref04_Prefix NN n = some p ∧ Nat.ble p.length 10 = true :=
  u8_opt (f := fun n => ref04_Prefix NN n) (p := fun p => Nat.ble p.length 10) (by decide +kernel) h0 h1
theorem span_ok4 {w : V_a2_uint8} (h : (0 : Int) ≤ w.1 ∧ w.1 < 256) (g : (0 : Int) ≤ w.2 ∧ w.2 < 256) : ∃ s, ref04_Span NN w = some s := by
  obtain ⟨a, h1, a1⟩ := tkey_ok h.1 h.2
  obtain ⟨b, h2, b1⟩ := tkey_ok g.1 g.2
  obtain ⟨c, h3, c1⟩ := pref_ok h.1 h.2
  have la := tkey_len a1
  have lc := Nat.le_of_ble_eq_true c1
  unfold ref04_Span
  rw [h1, h2]
  simp only
  rw [h3]
  simp only
  rw [gd_p (by simp only [maxS, List.length_cons, List.length_nil]; omega), gd_p (by simp only [maxS, List.length_cons, List.length_nil]; omega)]
  cases decide ((200 : Int) ≤ w.1) <;> cases decide ((200 : Int) ≤ w.2) <;> cases decide ((240 : Int) ≤ w.2) <;> exact ⟨_, rfl⟩

/-! ## parts of a span -/
def partsL (s : Sp) (lo : B) : List B → List Sp
  | [] => [meetB s (lo, [])]
  | p :: r => meetB s (lo, p) :: partsL s p r
theorem parts_len (s : Sp) : ∀ (l : List B) (lo : B), (partsL s lo l).length = l.length + 1
  | [], _ => rfl
  | p :: r, _ => by simp [partsL, parts_len s r p]
theorem parts_l0 (s : Sp) : ∀ (post pre : List B) (lo : B) (n : Nat) (out : List Sp), post.length < n → (pre ++ post).length < 1000 → out.length ≤ pre.length →
    ∃ q last, span_Parts_l0 NN n lo (pre ++ post) ((pre ++ post).length : Int) (pre.length : Int) s.1 s.2 out = some (((), ((), last)), ((s.1, s.2), (q, ()))) ∧ q ++ [meetB s (last, [])] = out ++ partsL s lo post ∧ q.length ≤ (pre ++ post).length
  | [], pre, lo, n + 1, out, _, _, ho => ⟨out, lo, by rw [span_Parts_l0_succ, span_Parts_l0_step, lt_end]; rfl, rfl, by simpa using ho⟩
  | p :: post, pre, lo, n + 1, out, hn, hb, ho => by
    have hb' : pre.length + (post.length + 1) < 1000 := by simpa using hb
    obtain ⟨q, last, h1, h2, h3⟩ := parts_l0 s post (pre ++ [p]) p n (out ++ [meetB s (lo, p)]) (by simpa using hn) (by rw [← app_mid]; exact hb) (by simp; omega)
    rw [← app_mid] at h1 h3
    refine ⟨q, last, ?_, by rw [h2]; simp [partsL], h3⟩
    rw [span_Parts_l0_succ, span_Parts_l0_step, lt_mid, cond_true, gd_t in_mid, rd_mid]
    rw [show ((s.1, s.2) : Sp) = s from rfl, Meet_ok]
    simp only
    rw [gd_t (fits_p (by omega) (by omega)), at_len pre p (by simp; omega)]
    exact h1
theorem Parts_ok (s : Sp) {l : List B} (h : l.length < 1000) : span_Parts NN s l = some (partsL s [] l) := by
  obtain ⟨q, last, h1, h2, h3⟩ := parts_l0 s l [] [] NN [] (by simp only [NN]; omega) (by simpa using h) (Nat.le_refl _)
  simp only [List.nil_append, List.length_nil] at h1 h2 h3
  rw [show ((0 : Nat) : Int) = 0 from rfl] at h1
  unfold span_Parts
  rw [h1]
  simp only
  rw [show ((s.1, s.2) : Sp) = s from rfl, Meet_ok]
  simp only
  rw [gd_t (fits_p (by omega) (by omega))]
  show some (q ++ [meetB s (last, [])]) = _
  rw [h2]
theorem count_parts (s : Sp) (k : B) : ∀ (l : List B) (lo hi : B), pivB lo hi l = true → ((partsL s lo l).filter fun x => hasB x k).length = bif hasB s k && !(lts k lo) then 1 else 0
  | [], lo, hi, _ => by
    have e : hasB (lo, []) k = !(lts k lo) := by rw [hasB_eq]; simp [belowB, eqs]
    simp only [partsL, List.filter, meet_has, e]
    cases (hasB s k && !(lts k lo)) <;> rfl
  | p :: r, lo, hi, h => by
    simp only [pivB, Bool.and_eq_true] at h
    have ih := count_parts s k r p hi h.2.2
    have hp : eqs p [] = false := by cases p with
      | nil => rw [lts_nil] at h; cases h.1
      | cons _ _ => rfl
    have e : hasB (lo, p) k = (!(lts k lo) && lts k p) := by rw [hasB_eq]; simp [belowB, hp]
    simp only [partsL, List.filter, meet_has, e]
    cases h1 : lts k p
    · rw [h1] at ih
      have h2 : lts k lo = false := by
        cases h2 : lts k lo
        · rfl
        · rw [lts_trans h2 h.1] at h1; cases h1
      rw [h2]
      simp only [Bool.and_false]
      rw [ih]
    · rw [h1] at ih
      simp only [Bool.not_true, Bool.and_false, cond_false] at ih
      simp only [Bool.and_true]
      cases hasB s k && !(lts k lo)
      · simp only [cond_false]; exact ih
      · simp only [cond_true, List.length_cons, ih]
theorem meet_lo {s x : Sp} (h : emptyB (meetR s x) = false) : meetB s x = meetR s x := by unfold meetB; rw [h]; rfl
theorem max_nil (a : B) : maxB' a [] = a := by unfold maxB'; rw [lts_nil]; rfl
theorem first_lo (s : Sp) (hs : emptyB s = false) : ∀ (l : List B), pivB s.1 s.2 l = true → ∃ x r, partsL s [] l = x :: r ∧ x.1 = s.1
  | [], _ => by
    have e : meetR s ([], []) = s := by
      unfold meetR
      simp only [max_nil]
      have : lessB [] s.2 = false := rfl
      rw [this]; rfl
    exact ⟨_, [], rfl, by rw [meet_lo (by rw [e]; exact hs), e]⟩
  | p :: r, h => by
    simp only [pivB, Bool.and_eq_true] at h
    have hp : eqs p [] = false := by cases p with
      | nil => have := h.1; rw [lts_nil] at this; cases this
      | cons _ _ => rfl
    have e : meetR s ([], p) = (s.1, p) := by
      unfold meetR
      simp only [max_nil]
      have : lessB p s.2 = true := by
        simp only [lessB, hp, Bool.not_false, Bool.true_and]
        exact h.2.1
      rw [this]; rfl
    have hn : emptyB (s.1, p) = false := by
      simp only [emptyB, hp, Bool.not_false, Bool.true_and, le_eq, h.1, Bool.not_true]
    exact ⟨_, _, rfl, by rw [meet_lo (by rw [e]; exact hn), e]⟩
theorem last_hi (s : Sp) : ∀ (l : List B) (lo : B), (lts s.1 lo = true ∧ (eqs s.2 [] || lts lo s.2) = true ∨ lo = [] ∧ l = [] ∧ emptyB s = false ∨ lo = [] ∧ l ≠ []) → pivB s.1 s.2 l = true ∨ pivB lo s.2 l = true ∧ lts s.1 lo = true → ∃ q x, partsL s lo l = q ++ [x] ∧ x.2 = s.2
  | [], lo, h, _ => by
    refine ⟨[], _, rfl, ?_⟩
    have e0 : lessB [] s.2 = false := rfl
    rcases h with ⟨h1, h2⟩ | ⟨rfl, _, h2⟩ | ⟨_, h2⟩
    · have e : meetR s (lo, []) = (lo, s.2) := by
        unfold meetR maxB'
        simp only [h1, e0]; rfl
      have hn : emptyB (lo, s.2) = false := by
        simp only [emptyB, le_eq]
        cases h3 : eqs s.2 []
        · rw [h3] at h2
          simp only [Bool.false_or] at h2
          rw [h2]; rfl
        · rfl
      rw [meet_lo (by rw [e]; exact hn), e]
    · have e : meetR s ([], []) = s := by
        unfold meetR
        simp only [max_nil, e0]; rfl
      rw [meet_lo (by rw [e]; exact h2), e]
    · exact absurd rfl h2
  | p :: r, lo, h, hp => by
    have hpp : lts s.1 p = true ∧ (eqs s.2 [] || lts p s.2) = true ∧ pivB p s.2 r = true := by
      rcases hp with hp | ⟨hp, h2⟩
      · simp only [pivB, Bool.and_eq_true] at hp
        exact hp
      · simp only [pivB, Bool.and_eq_true] at hp
        exact ⟨lts_trans h2 hp.1, hp.2⟩
    obtain ⟨q, x, h1, h2⟩ := last_hi s r p (.inl ⟨hpp.1, hpp.2.1⟩) (.inr ⟨hpp.2.2, hpp.1⟩)
    exact ⟨meetB s (lo, p) :: q, x, by simp [partsL, h1], h2⟩
theorem spans_l2 (k : B) (ok : Bool) (b4 : List Pr) (b5 : List B) (b6 : List Int) (b7 : List V_api_Sum) (b8 : List Mg) (b9 b10 : B) : ∀ (post pre : List Sp) (n c : Nat), post.length < n → (pre ++ post).length < 1000 → c ≤ pre.length →
    law10_NodeSpans_l2 NN n k ok (c : Int) (pre.length : Int) b4 b5 b6 b7 b8 b9 b10 (pre ++ post) = some ((k, (ok, ((), ((), ((), (((c + (post.filter fun x => hasB x k).length : Nat) : Int))))))), ((b4, (b5, (b6, (b7, b8)))), ((b9, b10), (pre ++ post, ()))))
  | [], pre, n + 1, c, _, _, _ => by
    rw [law10_NodeSpans_l2_succ, law10_NodeSpans_l2_step, lt_end]; rfl
  | x :: post, pre, n + 1, c, hn, hb, hc => by
    have hb' : pre.length + (post.length + 1) < 1000 := by simpa using hb
    have ih := fun c h => spans_l2 k ok b4 b5 b6 b7 b8 b9 b10 post (pre ++ [x]) n c (by simpa using hn) (by rw [← app_mid]; exact hb) h
    rw [← app_mid] at ih
    rw [law10_NodeSpans_l2_succ, law10_NodeSpans_l2_step, lt_mid, cond_true, gd_t in_mid, rd_mid, rHas_eq]
    simp only
    rw [at_len pre x (by simp; omega)]
    have wc : IntKind.wrap .i64 ((c : Int) + (1 : Int)) = ((c + 1 : Nat) : Int) := by rw [w64 (by omega) (by omega)]; rfl
    cases h : hasB x k
    · simp only [cond_false]
      rw [ih c (by simp; omega)]
      simp [List.filter, h]
    · simp only [cond_true, wc]
      rw [ih (c + 1) (by simp; omega)]
      have : c + 1 + (post.filter fun x => hasB x k).length = c + ((x :: post).filter fun x => hasB x k).length := by simp [List.filter, h]; omega
      rw [this]
theorem spans_p0 {n : Nd} (hn : GoodN n) (s : Sp) (hs : emptyB s = false) (hv : valB n s = true) (k : B) (ok : Bool) : law10_NodeSpans_p0 NN k ok n.1 n.2.1 n.2.2.1 n.2.2.2.1 n.2.2.2.2 s.1 s.2 = some (ok, ()) := by
  have hva := nValid_eq hn.small allS
  rw [hn.val] at hva
  unfold law10_NodeSpans_p0
  rw [isE]
  cases hk : n.2.2.1.isEmpty
  · have hv0 := hn.val
    unfold valB innB at hv0 hv
    rw [hk] at hv0 hv
    simp only [cond_false, Bool.and_eq_true] at hv0 hv
    obtain ⟨⟨_, _, hlen⟩, hp0, _⟩ := hv0
    obtain ⟨_, hp, _⟩ := hv
    have hlen := eqi_iff.1 hlen
    have t := hn.tiny
    have hS : node_Spans NN n s = some (partsL s [] n.2.1) := by
      unfold node_Spans
      rw [isE, hk, cond_false, Parts_ok s (by omega)]
    simp only [cond_false]
    rw [show ((n.1, (n.2.1, (n.2.2.1, (n.2.2.2.1, n.2.2.2.2)))) : Nd) = n from rfl, show ((s.1, s.2) : Sp) = s from rfl, hS]
    simp only
    have hpl := parts_len s n.2.1 []
    have hl := spans_l2 k ok n.1 n.2.1 n.2.2.1 n.2.2.2.1 n.2.2.2.2 s.1 s.2 (partsL s [] n.2.1) [] NN 0 (by rw [hpl]; simp only [NN]; omega) (by rw [List.nil_append, hpl]; omega) (Nat.le_refl _)
    simp only [List.nil_append, List.length_nil] at hl
    rw [show ((0 : Nat) : Int) = 0 from rfl, Nat.zero_add] at hl
    rw [hl]
    simp only
    rw [show ((n.1, (n.2.1, (n.2.2.1, (n.2.2.2.1, n.2.2.2.2)))) : Nd) = n from rfl, hva]
    simp only
    have hc := count_parts s k n.2.1 [] [] hp0
    rw [lts_nil, Bool.not_false, Bool.and_true] at hc
    obtain ⟨x, r, f1, f2⟩ := first_lo s hs n.2.1 hp
    obtain ⟨q, y, g1, g2⟩ := last_hi s n.2.1 [] (by
      cases h : n.2.1 with
      | nil => exact .inr (.inl ⟨rfl, rfl, hs⟩)
      | cons _ _ => exact .inr (.inr ⟨rfl, by simp⟩)) (.inl hp)
    have hq : q.length + 1 = n.2.1.length + 1 := by rw [← hpl, g1]; simp
    rw [eqi_iff.2 (show (((partsL s [] n.2.1).length : Nat) : Int) = (n.2.2.1.length : Int) by rw [hpl]; omega)]
    rw [show ((s.1, s.2) : Sp) = s from rfl, rHas_eq, hc]
    have e1 : eqb (eqi (((bif hasB s k then 1 else 0 : Nat)) : Int) 1) (hasB s k) = true := by cases hasB s k <;> rfl
    have e2 : decide ((((bif hasB s k then 1 else 0 : Nat)) : Int) ≤ 1) = true := by cases hasB s k <;> rfl
    simp only [e1, e2, cond_true]
    have w1 : IntKind.wrap .i64 (((partsL s [] n.2.1).length : Int) - 1) = (q.length : Int) := by rw [hpl, w64 (by omega) (by omega)]; omega
    have r1 : rdL (partsL s [] n.2.1) 0 D_api_Span = x := by rw [f1]; rfl
    have r2 : rdL (partsL s [] n.2.1) (q.length : Int) D_api_Span = y := by rw [g1]; exact rd_mid
    rw [gd_t (inB_t (by omega) (by rw [hpl]; omega)), r1, f2, eqs_self]
    simp only [w1, cond_true]
    rw [gd_t (inB_t (by omega) (by rw [hpl]; omega)), r2, g2, eqs_self]
    rfl
  · have hS : node_Spans NN n s = some [] := by
      unfold node_Spans
      rw [isE, hk]; rfl
    simp only [cond_true]
    rw [show ((n.1, (n.2.1, (n.2.2.1, (n.2.2.2.1, n.2.2.2.2)))) : Nd) = n from rfl, show ((s.1, s.2) : Sp) = s from rfl, hS]
    simp only
    rw [hva]
    rfl
theorem sanity10 : law10_sanity NN = some true := by decide +kernel
theorem plainSpans {R : Nat} (hR : R ≤ 20000000000) (x : V_ref10_Raw) (w : V_a2_uint8) (k : B) (hx : okShU R (.val T_ref10_Raw) x) (hw : okShU R (.val T_a2_uint8) w) (hk : okShU R .str k) : law10_NodeSpans NN x w k = some true := by
  have hvs : x.2.2.1.length ≤ 20000000000 := by
    have h := hx.2.2.1.1
    simp only [Ty.bytes] at h
    have : x.2.2.1.length * 1 ≤ R := h
    omega
  obtain ⟨n, h1, hn⟩ := made_ok10 (okTU_mono (by simp only [reachBytes]; omega) T_ref10_Raw x hx) hvs
  obtain ⟨s, h2⟩ := span_ok4 (w := w) (u8_of_wf hw.1) (u8_of_wf hw.2)
  unfold law10_NodeSpans
  rw [sanity10]
  simp only
  cases decide ((60 : Int) < (k.length : Int))
  · simp only [cond_false]
    rw [h1]
    simp only
    rw [h2]
    simp only
    rw [refEmpty_eq, nValid_eq hn.small s, rVal_eq hn.small s]
    simp only
    cases he : emptyB s
    · simp only [cond_false]
      cases hv : valB n s
      · rfl
      · simp only [Bool.not_true, cond_false]
        rw [spans_p0 hn s he hv k true]
    · simp only [cond_true]
      cases valB n s <;> rfl
  · rfl
end Ds
