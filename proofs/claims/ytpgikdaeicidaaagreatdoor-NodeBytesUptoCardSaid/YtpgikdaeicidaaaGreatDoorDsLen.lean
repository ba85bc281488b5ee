/- NodeLengths: beginnings of a node's bytes, and these bytes with others behind them, are refused. -/
import Derived.Test.YtpgikdaeicidaaaGreatDoorDsRead
import Derived.Test.YtpgikdaeicidaaaGreatDoorDsSpans
set_option linter.all false
namespace Ds
open Go Go.Dv
set_option maxRecDepth 100000
set_option linter.unusedVariables false
theorem eq_l0 : ∀ (xs ys pre pre2 : List Int) (n : Nat), xs.length = ys.length → pre.length = pre2.length → xs.length < n → (pre ++ xs).length < 1000000000 →
    slices_Equal_s_uint8_uint8_l0 NN n (pre ++ xs) (pre2 ++ ys) ((pre ++ xs).length : Int) (pre.length : Int) = some (bif decide (xs = ys) then .inr ((), ()) else .inl (false, ()))
  | [], [], pre, pre2, n + 1, _, _, _, _ => by
    rw [slices_Equal_s_uint8_uint8_l0_succ, slices_Equal_s_uint8_uint8_l0_step, lt_end]; rfl
  | x :: xs, y :: ys, pre, pre2, n + 1, h, hp, hn, hb => by
    have hb' : pre.length + (xs.length + 1) < 1000000000 := by simpa using hb
    have ih := eq_l0 xs ys (pre ++ [x]) (pre2 ++ [y]) n (by simpa using h) (by simp [hp]) (by simpa using hn) (by rw [← app_mid]; exact hb)
    rw [← app_mid, ← app_mid] at ih
    have i2 : inB (pre.length : Int) (pre2 ++ y :: ys).length = true := by rw [hp]; exact in_mid
    have r2 : rdL (pre2 ++ y :: ys) (pre.length : Int) 0 = y := by rw [hp]; exact rd_mid
    rw [slices_Equal_s_uint8_uint8_l0_succ, slices_Equal_s_uint8_uint8_l0_step, lt_mid, cond_true, gd_t in_mid, gd_t i2, rd_mid, r2]
    simp only
    by_cases e : x = y
    · subst e
      rw [eqi_self, show (!true) = false from rfl, cond_false, wr_mid (q := x) (by omega), ih]
      have : decide (x :: xs = x :: ys) = decide (xs = ys) := by simp
      rw [this]
    · rw [eqi_ne e, show (!false) = true from rfl, cond_true, decide_eq_false (by simp [e])]; rfl
theorem Equal_ok {x y : List Int} (hl : x.length < 1000000000) : slices_Equal_s_uint8_uint8 NN x y = some (decide (x = y)) := by
  unfold slices_Equal_s_uint8_uint8
  by_cases h : x.length = y.length
  · have := eq_l0 x y [] [] NN h rfl (by simp only [NN]; omega) (by simpa using hl)
    simp only [List.nil_append, List.length_nil] at this
    rw [show ((0 : Nat) : Int) = 0 from rfl] at this
    simp only
    rw [eqi_iff.2 (show (x.length : Int) = (y.length : Int) by omega), show (!true) = false from rfl, cond_false, this]
    cases decide (x = y) <;> rfl
  · simp only
    rw [eqi_ne (by omega), decide_eq_false (fun e => h (by rw [e]))]; rfl
abbrev E0 : Nd := ([], ([], ([], ([], []))))
def finN (b : List Int) (q : Nd) (b' : List Int) (ok : Bool) : Option (Nd × Int) :=
  match node_Parse_p0 NN b [] [] [] [] [] q.1 q.2.1 q.2.2.1 q.2.2.2.1 q.2.2.2.2 b' ok with
  | some r => some ((r.2.2.1, (r.2.2.2.1, (r.2.2.2.2.1, (r.2.2.2.2.2.1, r.2.2.2.2.2.2.1)))), r.1.2)
  | none => none
theorem fin_no {b : List Int} {q : Nd} {b' : List Int} {ok : Bool} (h : ok = false ∨ b' ≠ []) : finN b q b' ok = some (E0, 100) := by
  unfold finN node_Parse_p0
  rcases h with h | h
  · rw [h]; rfl
  · cases ok
    · rfl
    · cases b' with
      | nil => exact absurd rfl h
      | cons x r =>
        simp only [Bool.not_true, cond_false]
        rw [bif_t (by simp)]
theorem fin_yes {b : List Int} {q : Nd} (h : SmallN q) (hp : PivS q) (hl : (bytesN q).length < 1000000000 ∨ b.length < 1000000000) : finN b q [] true = some (bif decide ((bif valB q allS then bytesN q else []) = b) then (q, 0) else (E0, 100)) := by
  unfold finN node_Parse_p0
  have hb := Bytes_eq10 h hp
  simp only [Bool.not_true, cond_false]
  rw [bif_f (by simp)]
  rw [show ((q.1, (q.2.1, (q.2.2.1, (q.2.2.2.1, q.2.2.2.2)))) : Nd) = q from rfl, hb]
  simp only
  have key : slices_Equal_s_uint8_uint8 NN (bif valB q allS then bytesN q else []) b = some (decide ((bif valB q allS then bytesN q else []) = b)) := by
    have hX : (bif valB q allS then bytesN q else []).length ≤ (bytesN q).length := by cases valB q allS <;> simp
    by_cases e : (bif valB q allS then bytesN q else []).length < 1000000000
    · exact Equal_ok e
    · unfold slices_Equal_s_uint8_uint8
      have this : (bif valB q allS then bytesN q else []).length ≠ b.length := by
        rcases hl with hl | hl <;> omega
      simp only
      rw [eqi_ne (by omega), decide_eq_false (fun e => this (by rw [e]))]; rfl
  rw [key]
  simp only
  cases decide ((bif valB q allS then bytesN q else []) = b) <;> rfl
theorem parse_tot {b : List Int} (hb : Byts b) (hl : b.length < 30000) : ∃ q b' ok', node_Parse NN b = finN b q b' ok' ∧ SmallN q ∧ PivS q := by
  obtain ⟨v, b1, o1, h1, h2, h3, h4, _⟩ := num_tot 1 (by omega) b true hb
  have h1 : node_reader_number_m NN 1 b true = RS v b1 o1 := h1
  unfold node_Parse
  rw [h1]
  simp only
  cases eqi v 76
  · simp only [cond_false]
    cases eqi v 78
    · exact ⟨E0, b1, o1, rfl, ⟨by simp, by simp, by simp, by simp, by simp⟩, fun p hp => by cases hp⟩
    · simp only [cond_true]
      obtain ⟨k, b2, o2, g1, g2, g3, _, gk⟩ := four_tot b1 o1 h2
      rw [g1]
      simp only
      obtain ⟨kids, b3, o3, a1, a2, a3, a4, _⟩ := li_tot k b2 o2 g2 (by omega)
      rw [a1]
      simp only
      obtain ⟨pivs, b4, o4, c1, c2, c3, c4, c5⟩ := lt_tot (IntKind.wrap .i64 (k - 1)) b3 o3 a2 (by omega)
      rw [c1]
      simp only
      obtain ⟨sums, b5, o5, d1, d2, d3, d4, _⟩ := ls_tot k b4 o4 c2 (by omega)
      rw [d1]
      simp only
      obtain ⟨k2, b6, o6, e1, e2, e3, _, _⟩ := four_tot b5 o5 d2
      rw [e1]
      simp only
      obtain ⟨buf, b7, o7, f1, f2, f3, f4, _⟩ := lm_tot k2 b6 o6 e2 (by omega)
      rw [f1]
      simp only
      exact ⟨([], (pivs, (kids, (sums, buf)))), b7, o7, rfl, ⟨by simp, by simp only; omega, by simp only; omega, by simp only; omega, by simp only; omega⟩, c5⟩
  · simp only [cond_true]
    obtain ⟨k, b2, o2, g1, g2, g3, _, gk⟩ := four_tot b1 o1 h2
    rw [g1]
    simp only
    obtain ⟨ps, b3, o3, a1, a2, a3, a4, _⟩ := lp_tot k b2 o2 g2 (by omega)
    rw [a1]
    simp only
    exact ⟨(ps, ([], ([], ([], [])))), b3, o3, rfl, ⟨by simp only; omega, by simp, by simp, by simp, by simp⟩, fun p hp => by cases hp⟩
theorem num1_fwd {k : Int} (h0 : 0 ≤ k) (h1 : k < 256) (rest : List Int) : node_reader_number_m NN 1 (k :: rest) true = RS k rest true := by
  have h := num_fwd 1 (by omega) (v := k) h0 (by have : (256 : Int) ^ 1 = 256 := by decide
                                                 omega) (by omega) rest
  have e : bytes k 1 = [k] := by
    have hb : byt k 0 = k := by
      unfold byt
      rw [show (2 : Int) ^ (8 * 0) = 1 from rfl, Int.fdiv_one, IntKind.wrap_u8]; omega
    simp [bytes, hb]
  rw [e] at h
  exact h
theorem parse_fwd {n : Nd} (hs : SmallN n) (hp : PivS n) (hv : valB n allS = true) (rest : List Int) (hb : Byts rest) (hl : (bytesN n ++ rest).length < 900000000) : node_Parse NN (bytesN n ++ rest) = finN (bytesN n ++ rest) n rest true := by
  obtain ⟨s1, s2, s3, s4, s5⟩ := hs
  have gen : ∀ c, c = bytesN n ++ rest → node_Parse NN c = finN c n rest true := by
    intro c hc
    unfold node_Parse
    unfold valB at hv
    cases hk : n.2.2.1.isEmpty
    · rw [hk] at hv
      simp only [cond_false, innB, Bool.and_eq_true] at hv
      obtain ⟨⟨hpe, hse, hpi⟩, hpv, hkd, hm⟩ := hv
      have hse := eqi_iff.1 hse
      have hpi := eqi_iff.1 hpi
      have hm : ∀ m ∈ n.2.2.2.2, vldB m = true := fun m hmm => by
        have := List.all_eq_true.1 hm m hmm
        simp only [msgB, Bool.and_eq_true] at this
        exact this.1
      have hkz : ∀ y ∈ n.2.2.1.zip n.2.2.2.1, inR y.1 0 4095 = true ∧ sumB y.2 = true := fun y hy => by
        have := List.all_eq_true.1 hkd y hy
        simpa only [kidB, Bool.and_eq_true] using this
      have hkids : ∀ k ∈ n.2.2.1, inR k 0 4095 = true := fun k hk => by
        have e := List.map_fst_zip (l₁ := n.2.2.1) (l₂ := n.2.2.2.1) (by omega)
        rw [← e] at hk
        obtain ⟨y, hy, rfl⟩ := List.mem_map.1 hk
        exact (hkz y hy).1
      have hsums : ∀ k ∈ n.2.2.2.1, sumB k = true := fun k hk => by
        have e := List.map_snd_zip (l₁ := n.2.2.1) (l₂ := n.2.2.2.1) (by omega)
        rw [← e] at hk
        obtain ⟨y, hy, rfl⟩ := List.mem_map.1 hk
        exact (hkz y hy).2
      have e : bytesN n ++ rest = 78 :: (bytes (n.2.2.1.length : Int) 4 ++ (n.2.2.1.flatMap kidE ++ (n.2.1.flatMap textB ++ (n.2.2.2.1.flatMap sumE ++ (bytes (n.2.2.2.2.length : Int) 4 ++ (n.2.2.2.2.flatMap bytesM ++ rest)))))) := by
        unfold bytesN
        rw [hk]; simp
      rw [e] at hl
      simp only [List.length_cons, List.length_append] at hl
      rw [show node_reader_number_m NN 1 c true = RS 78 _ true by rw [hc, e]; exact num1_fwd (by omega) (by omega) _]
      simp only
      rw [show eqi (78 : Int) 76 = false from rfl, show eqi (78 : Int) 78 = true from rfl]
      simp only [cond_false, cond_true]
      rw [four_fwd (by omega) (by omega)]
      simp only
      rw [li_fwd s3 hkids]
      simp only
      have hne : n.2.2.1.length ≠ 0 := by
        cases h : n.2.2.1 with
        | nil => rw [h] at hk; simp at hk
        | cons _ _ => simp
      rw [w64 (n := (n.2.2.1.length : Int) - 1) (by omega) (by omega), ← hpi, lt_fwd s2 hp]
      simp only
      rw [← hse, ls_fwd s4 hsums]
      simp only
      rw [four_fwd (by omega) (by omega)]
      simp only
      rw [lm_fwd s5 hm rest hb (by simp only [List.length_append]; omega)]
      simp only
      have hn1 : n.1 = [] := by simpa using hpe
      unfold finN
      rw [hn1]
      rfl
    · rw [hk] at hv
      simp only [cond_true, leafB, Bool.and_eq_true] at hv
      obtain ⟨⟨q1, q2, q3⟩, _, hps⟩ := hv
      have hs : ∀ p ∈ n.1, storB p = true := fun p hpp => by
        have := List.all_eq_true.1 hps p hpp
        simp only [pairB, Bool.and_eq_true] at this
        exact this.1
      have e : bytesN n ++ rest = 76 :: (bytes (n.1.length : Int) 4 ++ (n.1.flatMap pairE ++ rest)) := by
        unfold bytesN
        rw [hk]; simp
      rw [show node_reader_number_m NN 1 c true = RS 76 _ true by rw [hc, e]; exact num1_fwd (by omega) (by omega) _]
      simp only
      rw [show eqi (76 : Int) 76 = true from rfl]
      simp only [cond_true]
      rw [four_fwd (by omega) (by omega)]
      simp only
      rw [lp_fwd s1 hs]
      simp only
      have e1 : n.2.1 = [] := by simpa using q1
      have e2 : n.2.2.2.1 = [] := by simpa using q2
      have e3 : n.2.2.2.2 = [] := by simpa using q3
      have e4 : n.2.2.1 = [] := by simpa using hk
      unfold finN
      rw [e1, e2, e3, e4]
      rfl
  exact gen _ rfl
theorem byts_N (n : Nd) : Byts (bytesN n) := by
  unfold bytesN
  have c : ∀ {k : Int} {l : List Int}, 0 ≤ k ∧ k < 256 → Byts l → Byts (k :: l) := fun hk h x hx => by
    rcases List.mem_cons.1 hx with rfl | h2
    · exact hk
    · exact h x h2
  have p : ∀ x : Pr, Byts (pairE x) := fun x => (byts_t _).append ((byts_t _).append (byts_n _ _))
  have s : ∀ x : V_api_Sum, Byts (sumE x) := fun x => (byts_n _ _).append ((byts_n _ _).append ((byts_n _ _).append (byts_n _ _)))
  cases n.2.2.1.isEmpty
  · exact c (by omega) ((byts_n _ _).append ((byts_flat _ (fun k => byts_n k 4) _).append ((byts_flat _ byts_t _).append ((byts_flat _ s _).append ((byts_n _ _).append (byts_flat _ byts_m _))))))
  · exact c (by omega) ((byts_n _ _).append (byts_flat _ p _))
theorem good_piv {n : Nd} (h : GoodN n) : PivS n := fun p hp => by have := tkey_len (h.piv p hp); omega
theorem good_len {n : Nd} (h : GoodN n) : (bytesN n).length < 3000 ∧ (bytesN n).length ≠ 0 := by
  have t := h.tiny
  have l0 := flat_len kidE 4 n.2.2.1 (fun x _ => by rw [bytes_len]; omega)
  have l1 := flat_len textB 14 n.2.1 (fun x hx => by have := tkey_len (h.piv x hx); rw [textB_len]; omega)
  have l3 := flat_len sumE 32 n.2.2.2.1 (fun x _ => by rw [sumE_len]; omega)
  have l4 := flat_len bytesM 60 n.2.2.2.2 (fun x hx => bytes_small (h.buf x hx))
  have l5 := flat_len pairE 23 n.1 (fun x hx => by
    obtain ⟨a, b, _⟩ := h.keys x hx
    have := tkey_len a
    have := tval_len b
    rw [pairE_len]; omega)
  unfold bytesN
  cases n.2.2.1.isEmpty
  · simp only [cond_false, List.length_cons, List.length_append, bytes_len]
    omega
  · simp only [cond_true, List.length_cons, List.length_append, bytes_len]
    omega
theorem parse_own {n : Nd} (hn : GoodN n) : node_Parse NN (bytesN n) = some (n, 0) := by
  have hl := good_len hn
  have h := parse_fwd hn.small (good_piv hn) hn.val [] byts_nil (by rw [List.append_nil]; omega)
  rw [List.append_nil, fin_yes hn.small (good_piv hn) (.inr (by omega)), hn.val, cond_true] at h
  rw [h]; simp
theorem parse_acc {b : List Int} (hb : Byts b) (hl : b.length < 30000) : node_Parse NN b = some (E0, 100) ∨ ∃ q, node_Parse NN b = some (q, 0) ∧ SmallN q ∧ PivS q ∧ valB q allS = true ∧ bytesN q = b := by
  obtain ⟨q, b', ok', h1, h2, h3⟩ := parse_tot hb hl
  by_cases hno : ok' = false ∨ b' ≠ []
  · exact .inl (by rw [h1, fin_no hno])
  · have ho : ok' = true := by
      cases ok'
      · exact absurd (.inl rfl) hno
      · rfl
    have hb' : b' = [] := by
      cases b' with
      | nil => rfl
      | cons _ _ => exact absurd (.inr (by simp)) hno
    subst ho hb'
    have hf := fin_yes (b := b) h2 h3 (.inr (by omega))
    cases hv : valB q allS
    · rw [hv, cond_false] at hf
      by_cases e : ([] : List Int) = b
      · exfalso
        subst e
        have hz : node_Parse NN [] = some (E0, 100) := by kernel_rfl
        rw [h1, hf] at hz
        simp at hz
      · rw [decide_eq_false e] at hf
        exact .inl (by rw [h1, hf]; rfl)
    · rw [hv, cond_true] at hf
      by_cases e : bytesN q = b
      · rw [decide_eq_true e] at hf
        exact .inr ⟨q, by rw [h1, hf]; rfl, h2, h3, hv, e⟩
      · rw [decide_eq_false e] at hf
        exact .inl (by rw [h1, hf]; rfl)
end Ds
