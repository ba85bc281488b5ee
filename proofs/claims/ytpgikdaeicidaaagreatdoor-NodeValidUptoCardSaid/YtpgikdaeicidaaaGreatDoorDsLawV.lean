/- NodeValid: the program's Valid and the reference's are one. -/
import Derived.Test.YtpgikdaeicidaaaGreatDoorDsSpans
set_option linter.all false
namespace Ds
open Go Go.Dv
set_option maxRecDepth 100000
set_option linter.unusedVariables false

def longB (m : Mg) : Bool := decide ((300 : Int) < (m.2.1.length : Int)) || (decide ((300 : Int) < (m.2.2.1.length : Int)) || (decide ((300 : Int) < (m.2.2.2.2.1.length : Int)) || (decide ((300 : Int) < (m.2.2.2.2.2.1.length : Int)) || (decide ((300 : Int) < (m.2.2.2.1.1.length : Int)) || decide ((300 : Int) < (m.2.2.2.1.2.length : Int))))))
theorem raws_l2 (b1 : List Pr) (b3 : List Int) (b4 : List V_api_Sum) (b5 : List Mg) {l : List B} (h : l.length < 1000) :
    law10_raws_l2 NN NN 0 b1 l b3 b4 b5 = some (bif l.all (fun x => !(decide ((300 : Int) < (x.length : Int)))) then .inr ((), ((b1, (l, (b3, (b4, b5)))), ())) else .inl (false, ())) := by
  refine look0 (xs := l) (L := fun n i => law10_raws_l2 NN n i b1 l b3 b4 b5) (fun x => !(decide ((300 : Int) < (x.length : Int)))) _ _ (fun n => by
      simp only [law10_raws_l2_succ, law10_raws_l2_step]; rw [bif_f (by simp)])
      (fun n pre x post hx => ?_) (by simp only [NN]; omega)
  have hl2 : l.length = pre.length + (post.length + 1) := by rw [hx]; simp
  have r1 : rdL l (pre.length : Int) ([] : B) = x := by rw [hx]; exact rd_mid
  simp only [law10_raws_l2_succ, law10_raws_l2_step]
  rw [bif_t (by simp; omega), gd_t (inB_t (by omega) (by omega)), r1, at_len pre x (by simp; omega)]
  cases decide ((300 : Int) < (x.length : Int)) <;> rfl
theorem raws_l3 (b1 : List Pr) (b2 : List B) (b3 : List Int) (b4 : List V_api_Sum) {l : List Mg} (h : l.length < 1000) :
    law10_raws_l3 NN NN 0 b1 b2 b3 b4 l = some (bif l.all (fun x => !(longB x)) then .inr ((), ()) else .inl (false, ())) := by
  refine look0 (xs := l) (L := fun n i => law10_raws_l3 NN n i b1 b2 b3 b4 l) (fun x => !(longB x)) _ _ (fun n => by
      simp only [law10_raws_l3_succ, law10_raws_l3_step]; rw [bif_f (by simp)])
      (fun n pre x post hx => ?_) (by simp only [NN]; omega)
  have hl2 : l.length = pre.length + (post.length + 1) := by rw [hx]; simp
  have r1 : rdL l (pre.length : Int) D_api_Msg = x := by rw [hx]; exact rd_mid
  have hw := at_len pre x (by simp; omega)
  simp only [law10_raws_l3_succ, law10_raws_l3_step]
  rw [bif_t (by simp; omega)]
  simp only [gd_t (inB_t (i := (pre.length : Int)) (n := l.length) (by omega) (by omega)), r1, law10_raws_p5, law10_raws_p4, hw, longB]
  cases decide ((300 : Int) < (x.2.1.length : Int)) <;> cases decide ((300 : Int) < (x.2.2.1.length : Int)) <;> cases decide ((300 : Int) < (x.2.2.2.2.1.length : Int)) <;> cases decide ((300 : Int) < (x.2.2.2.2.2.1.length : Int)) <;> cases decide ((300 : Int) < (x.2.2.2.1.1.length : Int)) <;> cases decide ((300 : Int) < (x.2.2.2.1.2.length : Int)) <;> first | rfl | (simp only [cond_true, cond_false, Bool.or_false, Bool.false_or, Bool.not_false, hw])
theorem raws_ok (n : Nd) : ∃ b, law10_raws NN n = some b ∧ (b = true → SmallN n) := by
  obtain ⟨a, b, c, d, e⟩ := n
  unfold law10_raws
  simp only [law10_raws_p1]
  by_cases h1 : (6 : Int) < (a.length : Int)
  · rw [bif_t (by simpa using h1)]; exact ⟨false, rfl, fun h => by cases h⟩
  rw [bif_f (by simpa using h1)]
  by_cases h2 : (6 : Int) < (c.length : Int)
  · rw [bif_t (by simpa using h2)]; exact ⟨false, rfl, fun h => by cases h⟩
  rw [bif_f (by simpa using h2)]
  by_cases h3 : (6 : Int) < (b.length : Int)
  · rw [bif_t (by simpa using h3)]; exact ⟨false, rfl, fun h => by cases h⟩
  rw [bif_f (by simpa using h3)]
  by_cases h4 : (6 : Int) < (d.length : Int)
  · rw [bif_t (by simpa using h4)]; exact ⟨false, rfl, fun h => by cases h⟩
  rw [bif_f (by simpa using h4)]
  by_cases h5 : (4 : Int) < (e.length : Int)
  · rw [show decide ((4 : Int) < (e.length : Int)) = true by simpa using h5]; exact ⟨false, rfl, fun h => by cases h⟩
  rw [show decide ((4 : Int) < (e.length : Int)) = false by simpa using h5]
  simp only [cond_false]
  have hs : SmallN (a, b, c, d, e) := ⟨by simp only; omega, by simp only; omega, by simp only; omega, by simp only; omega, by simp only; omega⟩
  unfold law10_raws_p0
  rw [raws_l2 a c d e (by omega)]
  cases b.all (fun x => !(decide ((300 : Int) < (x.length : Int))))
  · exact ⟨false, rfl, fun h => by cases h⟩
  · simp only [cond_true]
    rw [raws_l3 a b c d (by omega)]
    cases e.all (fun x => !(longB x))
    · exact ⟨false, rfl, fun h => by cases h⟩
    · exact ⟨true, rfl, fun _ => hs⟩
theorem eqb_self' (b : Bool) : eqb b b = true := by cases b <;> rfl
theorem valid_p0' {n odd raw : Nd} (hn : GoodN n) (ho : SmallN odd) (hr : SmallN raw) (s : Sp) (ok : Bool) :
    law10_NodeValid_p0 NN ok raw.1 raw.2.1 raw.2.2.1 raw.2.2.2.1 raw.2.2.2.2 n.1 n.2.1 n.2.2.1 n.2.2.2.1 n.2.2.2.2 s.1 s.2 odd.1 odd.2.1 odd.2.2.1 odd.2.2.2.1 odd.2.2.2.2 = some (ok, ()) := by
  have h1 : node_Valid NN (n.1, (n.2.1, (n.2.2.1, (n.2.2.2.1, n.2.2.2.2)))) ([], []) = some true := (nValid_eq hn.small allS).trans (by rw [hn.val])
  have h2 : node_Valid NN (n.1, (n.2.1, (n.2.2.1, (n.2.2.2.1, n.2.2.2.2)))) (s.1, s.2) = some (valB n s) := nValid_eq hn.small s
  have h3 : ref10_Valid NN (n.1, (n.2.1, (n.2.2.1, (n.2.2.2.1, n.2.2.2.2)))) (s.1, s.2) = some (valB n s) := rVal_eq hn.small s
  have h4 : node_Valid NN (odd.1, (odd.2.1, (odd.2.2.1, (odd.2.2.2.1, odd.2.2.2.2)))) ([], []) = some (valB odd allS) := nValid_eq ho allS
  have h5 : ref10_Valid NN (odd.1, (odd.2.1, (odd.2.2.1, (odd.2.2.2.1, odd.2.2.2.2)))) ([], []) = some (valB odd allS) := rVal_eq ho allS
  have h6 : node_Valid NN (raw.1, (raw.2.1, (raw.2.2.1, (raw.2.2.2.1, raw.2.2.2.2)))) (s.1, s.2) = some (valB raw s) := nValid_eq hr s
  have h7 : ref10_Valid NN (raw.1, (raw.2.1, (raw.2.2.1, (raw.2.2.2.1, raw.2.2.2.2)))) (s.1, s.2) = some (valB raw s) := rVal_eq hr s
  have h8 : node_Valid NN (raw.1, (raw.2.1, (raw.2.2.1, (raw.2.2.2.1, raw.2.2.2.2)))) ([], []) = some (valB raw allS) := nValid_eq hr allS
  have h9 : ref10_Valid NN (raw.1, (raw.2.1, (raw.2.2.1, (raw.2.2.2.1, raw.2.2.2.2)))) ([], []) = some (valB raw allS) := rVal_eq hr allS
  unfold law10_NodeValid_p0
  rw [h1]
  simp only [cond_true]
  rw [h2]
  simp only
  rw [h3]
  simp only [eqb_self', cond_true]
  rw [h4]
  simp only
  rw [h5]
  simp only [eqb_self', cond_true]
  rw [h6]
  simp only
  rw [h7]
  simp only [eqb_self', cond_true]
  rw [h8]
  simp only
  rw [h9]
  simp only [eqb_self', cond_true]
theorem plainValid10 {R : Nat} (hR : R ≤ 20000000000) (x : V_ref10_Raw) (raw : V_api_Node) (w : V_a4_int8) (hx : okShU R (.val T_ref10_Raw) x) (hr : okShU R (.val T_api_Node) raw) (hw : okShU R (.val T_a4_int8) w) : law10_NodeValid NN x raw w = some true := by
  have hvs : x.2.2.1.length ≤ 20000000000 := by
    have h := hx.2.2.1.1
    simp only [Ty.bytes] at h
    have : x.2.2.1.length * 1 ≤ R := h
    omega
  obtain ⟨n, h1, hn⟩ := made_ok10 (okTU_mono (by simp only [reachBytes]; omega) T_ref10_Raw x hx) hvs
  have u8 : ∀ n : Int, (0 : Int) ≤ IntKind.wrap .u8 n ∧ IntKind.wrap .u8 n < 256 := fun n => by rw [IntKind.wrap_u8]; constructor <;> omega
  obtain ⟨s, h2⟩ := span_ok4 (w := ((IntKind.wrap .u8 (w.1)), (IntKind.wrap .u8 (w.2.1)))) (u8 _) (u8 _)
  obtain ⟨k, h3, _⟩ := tkey_ok (u8 w.2.2.2).1 (u8 w.2.2.2).2
  obtain ⟨b, h4, h5⟩ := raws_ok raw
  have t := hn.tiny
  unfold law10_NodeValid
  rw [sanity10]
  simp only
  rw [h4]
  simp only
  cases b with
  | false => rfl
  | true =>
    have hr := h5 rfl
    simp only [Bool.not_true, cond_false]
    rw [h1]
    simp only
    rw [h2]
    simp only
    have app : ∀ {α : Type} (a b : List α), (@HAppend.hAppend (List α) (List α) (List α) _ a b) = a ++ b := fun _ _ => rfl
    have fit : ∀ {n b : Nat}, n < 1000 → b < 1024 → fits n b = true := fun h hb => fits_p (by omega) hb
    cases eqi (Int.tmod (IntKind.wrap .u8 w.2.2.1) 6) 0
    · simp only [cond_false]
      cases eqi (Int.tmod (IntKind.wrap .u8 w.2.2.1) 6) 1
      · simp only [cond_false]
        cases eqi (Int.tmod (IntKind.wrap .u8 w.2.2.1) 6) 2
        · simp only [cond_false]
          cases eqi (Int.tmod (IntKind.wrap .u8 w.2.2.1) 6) 3
          · simp only [cond_false]
            cases eqi (Int.tmod (IntKind.wrap .u8 w.2.2.1) 6) 4
            · simp only [cond_false]
              have := valid_p0' (odd := (n.1, (n.2.1, ([], (n.2.2.2.1, n.2.2.2.2))))) hn ⟨by simp only; omega, by simp only; omega, by simp, by simp only; omega, by simp only; omega⟩ hr s true
              simp only at this
              rw [this]
            · simp only [cond_true]
              rw [gd_t (fit (by omega) (by omega)), gd_t (fit (by simp; omega) (by omega))]
              have := valid_p0' (odd := (n.1, (n.2.1, (n.2.2.1, ([] ++ n.2.2.2.1 ++ [((IntKind.wrap .i64 w.2.2.2, (0 : Int)), ((0 : Int), (0 : Int)))], n.2.2.2.2))))) hn ⟨by simp only; omega, by simp only; omega, by simp only; omega, by simp; omega, by simp only; omega⟩ hr s true
              simp only at this
              rw [this]
          · simp only [cond_true]
            rw [gd_t (fit (by omega) (by omega)), gd_t (fit (by simp; omega) (by omega))]
            have := valid_p0' (odd := ([] ++ n.1 ++ [(([122] : B), (([] : B), IntKind.wrap .i64 w.2.2.2))], (n.2.1, (n.2.2.1, (n.2.2.2.1, n.2.2.2.2))))) hn ⟨by simp; omega, by simp only; omega, by simp only; omega, by simp only; omega, by simp only; omega⟩ hr s true
            simp only at this
            rw [this]
        · simp only [cond_true]
          rw [gd_t (fit (by omega) (by omega)), gd_t (fit (by simp; omega) (by omega))]
          have := valid_p0' (odd := (n.1, (n.2.1, (n.2.2.1, (n.2.2.2.1, [] ++ n.2.2.2.2 ++ [((IntKind.wrap .i64 w.2.2.2), (([107] : B), (([] : B), ((([] : B), ([] : B)), (([] : B), (([] : B), (0 : Int)))))))]))))) hn ⟨by simp only; omega, by simp only; omega, by simp only; omega, by simp only; omega, by simp; omega⟩ hr s true
          simp only at this
          rw [this]
      · simp only [cond_true]
        rw [gd_t (fit (by omega) (by omega)), h3]
        simp only
        rw [gd_t (fit (by simp; omega) (by omega))]
        have := valid_p0' (odd := (n.1, ([] ++ n.2.1 ++ [k], (n.2.2.1, (n.2.2.2.1, n.2.2.2.2))))) hn ⟨by simp only; omega, by simp; omega, by simp only; omega, by simp only; omega, by simp only; omega⟩ hr s true
        simp only at this
        rw [this]
    · simp only [cond_true]
      rw [gd_t (fit (by omega) (by omega)), gd_t (fit (by simp; omega) (by omega))]
      have := valid_p0' (odd := (n.1, (n.2.1, ([] ++ n.2.2.1 ++ [IntKind.wrap .i64 w.2.2.2], (n.2.2.2.1, n.2.2.2.2))))) hn ⟨by simp only; omega, by simp only; omega, by simp; omega, by simp only; omega, by simp only; omega⟩ hr s true
      simp only at this
      rw [this]
end Ds
