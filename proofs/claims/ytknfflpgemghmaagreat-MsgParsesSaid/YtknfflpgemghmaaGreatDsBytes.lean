/- Which messages are valid, and their bytes. -/
import Derived.Test.YtknfflpgemghmaaGreatDsLaws
import Derived.Laws.BitsLemmas
set_option linter.all false
namespace Ds
open Go Go.Dv
set_option maxRecDepth 100000
set_option linter.unusedVariables false

theorem bif_and (a b : Bool) : (bif a then some b else some false) = some (a && b) := by cases a <;> rfl
theorem bif_ite (a : Bool) : (bif a then some true else some false) = some a := by cases a <;> rfl

def inR (n lo hi : Int) : Bool := decide (lo ≤ n) && decide (n ≤ hi)
theorem min_eq (N : Nat) (n lo hi : Int) : msg_in N n lo hi = some (inR n lo hi) := by simp only [msg_in, bif_and]; rfl
theorem rin_eq (N : Nat) (n lo hi : Int) : ref05_in N n lo hi = some (inR n lo hi) := by simp only [ref05_in, bif_and]; rfl

def nol (s : B) : Bool := eqs s []
theorem nol_eq (s : B) : eqs [] s = nol s := eqs_comm [] s
theorem nol_eq' (s : B) : eqs s [] = nol s := rfl

def spanV (s : Sp) : Bool := !(emptyB s) && (decide ((s.1.length : Int) ≤ 65535) && decide ((s.2.length : Int) ≤ 65535))
theorem ends_eq (N : Nat) (s : Sp) : msg_ends N s = some (spanV s) := by
  have h : decide ((bif decide ((s.1.length : Int) < (s.2.length : Int)) then (s.2.length : Int) else (s.1.length : Int)) ≤ (65535 : Int)) = (decide ((s.1.length : Int) ≤ 65535) && decide ((s.2.length : Int) ≤ 65535)) := by
    rw [Bool.eq_iff_iff]
    by_cases q : (s.1.length : Int) < (s.2.length : Int)
    · rw [decide_eq_true q]
      simp only [cond_true, decide_eq_true_eq, Bool.and_eq_true]; omega
    · rw [decide_eq_false q]
      simp only [cond_false, decide_eq_true_eq, Bool.and_eq_true]; omega
  simp only [msg_ends, empty_eq, h, bif_and, spanV]
theorem rspan_eq (N : Nat) (s : Sp) : ref05_span N s = some (spanV s) := by
  simp only [ref05_span, refEmpty_eq, bif_and, spanV]

def apartV (a b : B) : Bool := inR a.length 1 200 && (inR b.length 1 200 && (!(b.isPrefixOf a) && !(a.isPrefixOf b)))
theorem apart_eq (N : Nat) (a b : B) : msg_apart N a b = some (apartV a b) := by
  simp only [msg_apart, min_eq, strings_HasPrefix, HasPrefix_ok, bif_and, apartV]

def vldB (m : Mg) : Bool :=
  bif eqi m.1 1 then (inR m.2.1.length 1 65535 && (decide ((m.2.2.1.length : Int) ≤ 64) && inR m.2.2.2.2.2.2 0 1000000000)) && (nol m.2.2.2.1.1 && (nol m.2.2.2.1.2 && (nol m.2.2.2.2.1 && nol m.2.2.2.2.2.1))) else
  bif eqi m.1 2 then inR m.2.1.length 1 65535 && (nol m.2.2.1 && (nol m.2.2.2.1.1 && (nol m.2.2.2.1.2 && (nol m.2.2.2.2.1 && (nol m.2.2.2.2.2.1 && eqi m.2.2.2.2.2.2 0))))) else
  bif eqi m.1 3 then spanV m.2.2.2.1 && (nol m.2.1 && (nol m.2.2.1 && (nol m.2.2.2.2.1 && (nol m.2.2.2.2.2.1 && eqi m.2.2.2.2.2.2 0)))) else
  bif eqi m.1 4 || eqi m.1 5 then apartV m.2.2.2.2.1 m.2.2.2.2.2.1 && (nol m.2.1 && (nol m.2.2.1 && (nol m.2.2.2.1.1 && (nol m.2.2.2.1.2 && eqi m.2.2.2.2.2.2 0)))) else
  bif eqi m.1 6 then (spanV m.2.2.2.1 && inR m.2.2.2.2.2.2 0 1000000000) && (nol m.2.1 && (nol m.2.2.1 && (nol m.2.2.2.2.1 && nol m.2.2.2.2.2.1))) else false

theorem eqi_comm (a b : Int) : eqi a b = eqi b a := by
  cases h : eqi b a
  · cases h2 : eqi a b
    · rfl
    · rw [eqi_iff.1 h2, eqi_self] at h; cases h
  · rw [eqi_iff.1 h, eqi_self]

theorem Valid_eq (m : Mg) : msg_Valid NN m = some (vldB m) := by
  simp only [msg_Valid, msg_of, vldB]
  cases h1 : eqi m.1 1
  case true =>
    simp only [cond_true, msg_put_valid, msg_put_bare, min_eq, bif_and, eqi_self, eqs_self, nol_eq, Bool.true_and, Bool.and_true, Bool.and_assoc]
  case false =>
  cases h2 : eqi m.1 2
  case true =>
    simp only [cond_true, cond_false, msg_del_valid, msg_del_bare, min_eq, bif_and, eqi_self, eqs_self, nol_eq, Bool.true_and, Bool.and_true, eqi_comm 0]
  case false =>
  cases h3 : eqi m.1 3
  case true =>
    simp only [cond_true, cond_false, msg_drop_valid, msg_drop_bare, ends_eq, bif_and, eqi_self, eqs_self, nol_eq, Bool.true_and, Bool.and_true, eqi_comm 0]
  case false =>
  cases h4 : eqi m.1 4
  case true =>
    simp only [cond_true, cond_false, msg_move_valid, msg_move_bare, apart_eq, bif_and, eqi_self, eqs_self, nol_eq, Bool.true_and, Bool.and_true, eqi_comm 0, Bool.true_or]
  case false =>
  cases h5 : eqi m.1 5
  case true =>
    simp only [cond_true, cond_false, msg_clone_valid, msg_clone_bare, apart_eq, bif_and, eqi_self, eqs_self, nol_eq, Bool.true_and, Bool.and_true, eqi_comm 0, Bool.or_true]
  case false =>
  cases h6 : eqi m.1 6
  case true =>
    simp only [cond_true, cond_false, msg_stamp_valid, msg_stamp_bare, ends_eq, min_eq, bif_and, eqi_self, eqs_self, nol_eq, Bool.true_and, Bool.and_true, Bool.or_self, Bool.and_assoc]
  case false => simp only [cond_false, Bool.or_self]

theorem rValid_p0 (m : Mg) (st mvs : Bool) : ref05_Valid_p0 NN st m.1 mvs m.1 m.2.1 m.2.2.1 m.2.2.2.1.1 m.2.2.2.1.2 m.2.2.2.2.1 m.2.2.2.2.2.1 m.2.2.2.2.2.2 =
    some (bif mvs then .inl (apartV m.2.2.2.2.1 m.2.2.2.2.2.1 && (nol m.2.1 && (nol m.2.2.1 && (nol m.2.2.2.1.1 && (nol m.2.2.2.1.2 && eqi m.2.2.2.2.2.2 0)))), ()) else bif eqi m.1 6 then .inl ((spanV m.2.2.2.1 && st) && (nol m.2.1 && (nol m.2.2.1 && (nol m.2.2.2.2.1 && nol m.2.2.2.2.2.1))), ()) else .inr ((), ())) := by
  have e : (m.2.2.2.1.1, m.2.2.2.1.2) = m.2.2.2.1 := rfl
  simp only [ref05_Valid_p0, rBegins_ok, rin_eq, e, rspan_eq, nol_eq', eqi_self, eqs_self, Bool.true_and, Bool.and_true, apartV]
  cases mvs
  · simp only [cond_false]
    cases eqi m.1 6
    · rfl
    · simp only [cond_true]
      cases spanV m.2.2.2.1 <;> cases st <;> rfl
  · simp only [cond_true]
    cases m.2.2.2.2.2.1.isPrefixOf m.2.2.2.2.1 <;> cases m.2.2.2.2.1.isPrefixOf m.2.2.2.2.2.1 <;> cases inR m.2.2.2.2.1.length 1 200 <;> cases inR m.2.2.2.2.2.1.length 1 200 <;> rfl

theorem rValid_eq (m : Mg) : ref05_Valid NN m = some (vldB m) := by
  simp only [ref05_Valid, vldB, rin_eq, rspan_eq, rValid_p0]
  cases h1 : eqi m.1 1
  case true =>
    simp only [cond_true, bif_and, eqi_self, eqs_self, nol_eq', Bool.true_and, Bool.and_true, Bool.and_assoc]
  case false =>
  cases h2 : eqi m.1 2
  case true =>
    simp only [cond_true, cond_false, bif_and, eqi_self, eqs_self, nol_eq', Bool.true_and, Bool.and_true]
  case false =>
  cases h3 : eqi m.1 3
  case true =>
    simp only [cond_true, cond_false, bif_and, eqi_self, eqs_self, nol_eq', Bool.true_and, Bool.and_true]
  case false =>
  cases h4 : eqi m.1 4
  case true => simp only [cond_true, cond_false, Bool.true_or]
  case false =>
  cases h5 : eqi m.1 5
  case true => simp only [cond_true, cond_false, Bool.or_true]
  case false =>
  cases h6 : eqi m.1 6
  · simp only [cond_false, Bool.or_self]
  · simp only [cond_true, cond_false, Bool.or_self]

/-! ## bytes of numbers and texts -/
def byt (n : Int) (i : Nat) : Int := IntKind.wrap .u8 (Int.fdiv n (2 ^ (8 * i)))
theorem byt_eq (n : Int) (i : Nat) (hi : i < 8) : IntKind.wrap .u8 (Int.fdiv n (2 ^ min (Int.toNat (IntKind.wrap .i64 ((8 : Int) * (i : Int)))) (IntKind.bits .i64))) = byt n i := by
  have e : IntKind.wrap .i64 ((8 : Int) * (i : Int)) = ((8 * i : Nat) : Int) := by rw [w64 (by omega) (by omega)]; omega
  have b : IntKind.bits .i64 = 64 := rfl
  rw [e, Int.toNat_natCast, b, Nat.min_eq_left (by omega)]
  rfl

def bytes (n : Int) : Nat → List Int
  | 0 => []
  | w + 1 => byt n w :: bytes n w
theorem bytes_len (n : Int) : ∀ w, (bytes n w).length = w
  | 0 => rfl
  | w + 1 => by simp [bytes, bytes_len n w]

theorem wnum_l0 (N : Nat) (v : Int) : ∀ (w n : Nat) (out : List Int), w < n → w ≤ 8 → out.length + w < 1000000000 → msg_writer_number_m_l0 N n v ((w : Int) - 1) out = some ((), ((), (out ++ bytes v w, ())))
  | _, 0, _, h, _, _ => absurd h (Nat.not_lt_zero _)
  | 0, n + 1, out, _, _, _ => by
    rw [msg_writer_number_m_l0_succ]
    simp only [msg_writer_number_m_l0_step]
    rw [bif_f (by decide)]
    simp [bytes]
  | w + 1, n + 1, out, hn, hw, hl => by
    have e0 : ((w + 1 : Nat) : Int) - 1 = (w : Int) := by omega
    have e1 : IntKind.wrap .i64 ((w : Int) - (1 : Int)) = (w : Int) - 1 := w64 (by omega) (by omega)
    have e2 : decide (0 ≤ IntKind.wrap .i64 ((8 : Int) * (w : Int))) = true := by rw [w64 (by omega) (by omega)]; simp; omega
    rw [e0, msg_writer_number_m_l0_succ]
    simp only [msg_writer_number_m_l0_step, byt_eq v w (by omega), e1]
    rw [bif_t (by simp), gd_t e2, gd_t (fits_p (by omega) (by omega)), wnum_l0 N v w n _ (by omega) (by omega) (by simp; omega)]
    simp [bytes]

theorem wnum (v : Int) (w : Nat) (hw : w ≤ 8) (out : List Int) (hl : out.length < 100000000) : msg_writer_number_m NN v (w : Int) out = some ((), ((), (out ++ bytes v w, ()))) := by
  have e1 : IntKind.wrap .i64 ((w : Int) - (1 : Int)) = (w : Int) - 1 := w64 (by omega) (by omega)
  simp only [msg_writer_number_m, e1, wnum_l0 NN v w NN out (by simp only [NN]; omega) hw (by omega)]

theorem rnum_l0 (N : Nat) (v : Int) : ∀ (w n : Nat) (out : List Int), w < n → w ≤ 8 → out.length + w < 1000000000 → ref05_number_l0 N n v ((w : Int) - 1) out = some ((), (out ++ bytes v w, ()))
  | _, 0, _, h, _, _ => absurd h (Nat.not_lt_zero _)
  | 0, n + 1, out, _, _, _ => by
    rw [ref05_number_l0_succ]
    simp only [ref05_number_l0_step]
    rw [bif_f (by decide)]
    simp [bytes]
  | w + 1, n + 1, out, hn, hw, hl => by
    have e0 : ((w + 1 : Nat) : Int) - 1 = (w : Int) := by omega
    have e1 : IntKind.wrap .i64 ((w : Int) - (1 : Int)) = (w : Int) - 1 := w64 (by omega) (by omega)
    have e2 : decide (0 ≤ IntKind.wrap .i64 ((8 : Int) * (w : Int))) = true := by rw [w64 (by omega) (by omega)]; simp; omega
    rw [e0, ref05_number_l0_succ]
    simp only [ref05_number_l0_step, byt_eq v w (by omega), e1]
    rw [bif_t (by simp), gd_t e2, gd_t (fits_p (by omega) (by omega)), rnum_l0 N v w n _ (by omega) (by omega) (by simp; omega)]
    simp [bytes]

theorem rnum (v : Int) (w : Nat) (hw : w ≤ 8) : ref05_number NN v (w : Int) = some (bytes v w) := by
  have e1 : IntKind.wrap .i64 ((w : Int) - (1 : Int)) = (w : Int) - 1 := w64 (by omega) (by omega)
  simp only [ref05_number, e1, rnum_l0 NN v w NN [] (by simp only [NN]; omega) hw (by simp; omega)]
  simp

theorem bytesI_len (s : B) : (bytesI s).length = s.length := by simp [bytesI]
def textB (s : B) : List Int := bytes (s.length : Int) 2 ++ bytesI s
theorem textB_len (s : B) : (textB s).length = 2 + s.length := by simp [textB, bytes_len, bytesI_len]

theorem wtext {s : B} (hs : s.length < 100000) (out : List Int) (hl : out.length < 10000000) : msg_writer_text_m NN s out = some ((), ((), (out ++ textB s, ()))) := by
  have h := wnum (s.length : Int) 2 (by omega) out (by omega)
  simp only [msg_writer_text_m, show ((2 : Nat) : Int) = 2 from rfl] at h ⊢
  simp only [h]
  rw [gd_t (fits_p (by simp [bytes_len, bytesI_len]; omega) (by omega))]
  simp [textB]

theorem rtexts1 {a : B} (ha : a.length < 100000) : ref05_texts NN [a] = some (textB a) := by
  have h1 := rnum (a.length : Int) 2 (by omega)
  have w1 : IntKind.wrap .i64 ((0 : Int) + (1 : Int)) = 1 := by decide
  have r0 : rdL [a] (0 : Int) ([] : B) = a := rfl
  simp only [show ((2 : Nat) : Int) = 2 from rfl] at h1
  have hl : ref05_texts_l0 NN NN [a] (0 : Int) [] = some ((), (textB a, ())) := by
    rw [show ref05_texts_l0 NN NN = ref05_texts_l0 NN (999998 + 2) from rfl, ref05_texts_l0_succ]
    simp only [ref05_texts_l0_step, r0, h1, w1]
    rw [bif_t (by rfl), gd_t (by rfl), gd_t (fits_p (by simp [bytes_len]) (by omega)), gd_t (by rfl), gd_t (fits_p (by simp [bytes_len, bytesI_len]; omega) (by omega)), ref05_texts_l0_succ]
    simp only [ref05_texts_l0_step]
    rw [bif_f (by rfl)]
    simp [textB]
  simp only [ref05_texts, hl]

theorem rtexts2 {a b : B} (ha : a.length < 100000) (hb : b.length < 100000) : ref05_texts NN [a, b] = some (textB a ++ textB b) := by
  have h1 := rnum (a.length : Int) 2 (by omega)
  have h2 := rnum (b.length : Int) 2 (by omega)
  have w1 : IntKind.wrap .i64 ((0 : Int) + (1 : Int)) = 1 := by decide
  have w2 : IntKind.wrap .i64 ((1 : Int) + (1 : Int)) = 2 := by decide
  have r0 : rdL [a, b] (0 : Int) ([] : B) = a := rfl
  have r1 : rdL [a, b] (1 : Int) ([] : B) = b := rfl
  simp only [show ((2 : Nat) : Int) = 2 from rfl] at h1 h2
  have hl : ref05_texts_l0 NN NN [a, b] (0 : Int) [] = some ((), (textB a ++ textB b, ())) := by
    rw [show ref05_texts_l0 NN NN = ref05_texts_l0 NN (999997 + 3) from rfl, ref05_texts_l0_succ]
    simp only [ref05_texts_l0_step, r0, h1, w1]
    rw [bif_t (by rfl), gd_t (by rfl), gd_t (fits_p (by simp [bytes_len]) (by omega)), gd_t (by rfl), gd_t (fits_p (by simp [bytes_len, bytesI_len]; omega) (by omega)), ref05_texts_l0_succ]
    simp only [ref05_texts_l0_step, r1, h2, w2]
    rw [bif_t (by rfl), gd_t (by rfl), gd_t (fits_p (by simp [bytes_len, bytesI_len]; omega) (by omega)), gd_t (by rfl), gd_t (fits_p (by simp [bytes_len, bytesI_len]; omega) (by omega)), ref05_texts_l0_succ]
    simp only [ref05_texts_l0_step]
    rw [bif_f (by rfl)]
    simp [textB]
  simp only [ref05_texts, hl]

/-! ## bytes of messages -/
def bodyB (m : Mg) : List Int :=
  bif eqi m.1 1 then textB m.2.1 ++ textB m.2.2.1 ++ bytes m.2.2.2.2.2.2 4 else
  bif eqi m.1 2 then textB m.2.1 else
  bif eqi m.1 3 then textB m.2.2.2.1.1 ++ textB m.2.2.2.1.2 else
  bif eqi m.1 6 then textB m.2.2.2.1.1 ++ textB m.2.2.2.1.2 ++ bytes m.2.2.2.2.2.2 4 else
  textB m.2.2.2.2.1 ++ textB m.2.2.2.2.2.1
def bytesM (m : Mg) : List Int := IntKind.wrap .u8 m.1 :: bodyB m
def bytesV (m : Mg) : List Int := bif vldB m then bytesM m else []

theorem inR_iff {n lo hi : Int} : inR n lo hi = true ↔ lo ≤ n ∧ n ≤ hi := by simp [inR]

/-- what a valid message's fields are -/
theorem vld_cases {m : Mg} (h : vldB m = true) :
    (∃ k v n, m = putMsg k v n ∧ 1 ≤ k.length ∧ k.length ≤ 65535 ∧ v.length ≤ 64 ∧ 0 ≤ n ∧ n ≤ 1000000000) ∨
    (∃ k, m = delMsg k ∧ 1 ≤ k.length ∧ k.length ≤ 65535) ∨
    (∃ s, m = dropMsg s ∧ spanV s = true) ∨
    (∃ k e, m = mv k e ∧ (k = 4 ∨ k = 5) ∧ apartV e.1 e.2 = true) ∨
    (∃ s n, m = stampMsg s n ∧ spanV s = true ∧ 0 ≤ n ∧ n ≤ 1000000000) := by
  obtain ⟨k, key, val, ⟨lo, hi⟩, fr, to, n⟩ := m
  simp only [vldB] at h
  have nl : ∀ {s : B}, nol s = true → s = [] := fun h => eqs_iff.1 h
  cases h1 : eqi k 1
  case true =>
    rw [h1] at h
    simp only [cond_true, Bool.and_eq_true, inR_iff, decide_eq_true_eq] at h
    obtain ⟨⟨a, b, c⟩, d1, d2, d3, d4⟩ := h
    have e := eqi_iff.1 h1
    rw [e, nl d1, nl d2, nl d3, nl d4]
    exact .inl ⟨key, val, n, rfl, by omega, by omega, by omega, c.1, c.2⟩
  case false =>
  rw [h1] at h
  cases h2 : eqi k 2
  case true =>
    rw [h2] at h
    simp only [cond_true, cond_false, Bool.and_eq_true, inR_iff] at h
    obtain ⟨a, d0, d1, d2, d3, d4, d5⟩ := h
    rw [eqi_iff.1 h2, nl d0, nl d1, nl d2, nl d3, nl d4, eqi_iff.1 d5]
    exact .inr (.inl ⟨key, rfl, by omega, by omega⟩)
  case false =>
  rw [h2] at h
  cases h3 : eqi k 3
  case true =>
    rw [h3] at h
    simp only [cond_true, cond_false, Bool.and_eq_true] at h
    obtain ⟨a, d0, d1, d3, d4, d5⟩ := h
    rw [eqi_iff.1 h3, nl d0, nl d1, nl d3, nl d4, eqi_iff.1 d5]
    exact .inr (.inr (.inl ⟨(lo, hi), rfl, a⟩))
  case false =>
  rw [h3] at h
  cases h4 : (eqi k 4 || eqi k 5)
  case true =>
    rw [h4] at h
    simp only [cond_true, cond_false, Bool.and_eq_true] at h
    obtain ⟨a, d0, d1, d2, d3, d5⟩ := h
    rw [nl d0, nl d1, nl d2, nl d3, eqi_iff.1 d5]
    refine .inr (.inr (.inr (.inl ⟨k, (fr, to), rfl, ?_, a⟩)))
    simpa [eqi_iff] using h4
  case false =>
  rw [h4] at h
  cases h6 : eqi k 6
  case true =>
    rw [h6] at h
    simp only [cond_true, cond_false, Bool.and_eq_true, inR_iff] at h
    obtain ⟨⟨a, c⟩, d0, d1, d3, d4⟩ := h
    rw [eqi_iff.1 h6, nl d0, nl d1, nl d3, nl d4]
    exact .inr (.inr (.inr (.inr ⟨(lo, hi), n, rfl, a, c.1, c.2⟩)))
  case false => rw [h6] at h; cases h

theorem spanV_len {s : Sp} (h : spanV s = true) : s.1.length ≤ 65535 ∧ s.2.length ≤ 65535 := by
  simp only [spanV, Bool.and_eq_true, decide_eq_true_eq] at h; omega
theorem apartV_len {a b : B} (h : apartV a b = true) : (1 ≤ a.length ∧ a.length ≤ 200) ∧ 1 ≤ b.length ∧ b.length ≤ 200 := by
  simp only [apartV, Bool.and_eq_true, inR_iff] at h; omega

theorem Bytes_eq (m : Mg) : msg_Bytes NN m = some (bytesV m) := by
  simp only [msg_Bytes, Valid_eq, bytesV]
  cases h : vldB m
  · rfl
  · simp only [Bool.not_true, cond_false, cond_true]
    have n4 := fun (v : Int) out hl => wnum v 4 (by omega) out hl
    simp only [show ((4 : Nat) : Int) = 4 from rfl] at n4
    rcases vld_cases h with ⟨k, v, n, rfl, h1, h2, h3, h4, h5⟩ | ⟨k, rfl, h1, h2⟩ | ⟨s, rfl, h1⟩ | ⟨k, e, rfl, hk, h1⟩ | ⟨s, n, rfl, h1, h2, h3⟩
    · have e : msg_of NN (putMsg k v n) = some (.inl (putMsg k v n)) := rfl
      simp only [e, msg_put_write_m]
      rw [wtext (by omega) _ (by simp)]
      simp only
      rw [wtext (by omega) _ (by simp [textB_len]; omega)]
      simp only
      rw [n4 _ _ (by simp [textB_len]; omega)]
      simp [bytesM, bodyB]
    · have e : msg_of NN (delMsg k) = some (.inr (.inl (delMsg k))) := rfl
      simp only [e, msg_del_write_m]
      rw [wtext (by omega) _ (by simp)]
      rfl
    · have e : msg_of NN (dropMsg s) = some (.inr (.inr (.inl (dropMsg s)))) := rfl
      have := spanV_len h1
      simp only [e, msg_drop_write_m]
      rw [wtext (by omega) _ (by simp)]
      simp only
      rw [wtext (by omega) _ (by simp [textB_len]; omega)]
      simp only [List.append_assoc]
      rfl
    · have := apartV_len h1
      rcases hk with rfl | rfl
      · have e' : msg_of NN (mv 4 e) = some (.inr (.inr (.inr (.inl (mv 4 e))))) := rfl
        simp only [e', msg_move_write_m]
        rw [wtext (by omega) _ (by simp)]
        simp only
        rw [wtext (by omega) _ (by simp [textB_len]; omega)]
        simp only [List.append_assoc]
        rfl
      · have e' : msg_of NN (mv 5 e) = some (.inr (.inr (.inr (.inr (.inl (mv 5 e)))))) := rfl
        simp only [e', msg_clone_write_m, msg_move_write_m]
        rw [wtext (by omega) _ (by simp)]
        simp only
        rw [wtext (by omega) _ (by simp [textB_len]; omega)]
        simp only [List.append_assoc]
        rfl
    · have e : msg_of NN (stampMsg s n) = some (.inr (.inr (.inr (.inr (.inr (.inl (stampMsg s n))))))) := rfl
      have := spanV_len h1
      simp only [e, msg_stamp_write_m, msg_drop_write_m]
      rw [wtext (by omega) _ (by simp)]
      simp only
      rw [wtext (by omega) _ (by simp [textB_len]; omega)]
      simp only
      rw [n4 _ _ (by simp [textB_len]; omega)]
      show some _ = some (_ :: (textB s.1 ++ textB s.2 ++ bytes n 4))
      simp

theorem rBytes_eq (m : Mg) : ref05_Bytes NN m = some (bytesV m) := by
  simp only [ref05_Bytes, rValid_eq, bytesV]
  cases h : vldB m
  · rfl
  · simp only [Bool.not_true, cond_false, cond_true]
    have n4 := fun (v : Int) => rnum v 4 (by omega)
    simp only [show ((4 : Nat) : Int) = 4 from rfl] at n4
    rcases vld_cases h with ⟨k, v, n, rfl, h1, h2, h3, h4, h5⟩ | ⟨k, rfl, h1, h2⟩ | ⟨s, rfl, h1⟩ | ⟨k, e, rfl, hk, h1⟩ | ⟨s, n, rfl, h1, h2, h3⟩
    · simp only [eqi_self, cond_true, rtexts2 (a := k) (b := v) (by omega) (by omega), ref05_Bytes_p0, n4]
      rw [gd_t (fits_p (by simp [textB_len]; omega) (by omega)), gd_t (fits_p (by simp [textB_len, bytes_len]; omega) (by omega))]
      simp only [List.append_assoc]
      simp [bytesM, bodyB]
    · have j1 : eqi (2 : Int) 1 = false := by decide
      have j6 : eqi (2 : Int) 6 = false := by decide
      simp only [j1, j6, eqi_self, cond_true, cond_false, rtexts1 (a := k) (by omega), ref05_Bytes_p0]
      rw [gd_t (fits_p (by simp [textB_len]; omega) (by omega))]
      rfl
    · have j1 : eqi (3 : Int) 1 = false := by decide
      have j2 : eqi (3 : Int) 2 = false := by decide
      have j6 : eqi (3 : Int) 6 = false := by decide
      have := spanV_len h1
      simp only [j1, j2, j6, eqi_self, cond_true, cond_false, rtexts2 (a := s.1) (b := s.2) (by omega) (by omega), ref05_Bytes_p0]
      rw [gd_t (fits_p (by simp [textB_len]; omega) (by omega))]
      rfl
    · have := apartV_len h1
      have j : ∀ x : Int, x ≠ 4 → x ≠ 5 → eqi k x = false := fun x h1 h2 => eqi_ne (by rcases hk with rfl | rfl <;> omega)
      simp only [j 1 (by omega) (by omega), j 2 (by omega) (by omega), j 3 (by omega) (by omega), j 6 (by omega) (by omega), cond_false, rtexts2 (a := e.1) (b := e.2) (by omega) (by omega), ref05_Bytes_p0]
      rw [gd_t (fits_p (by simp [textB_len]; omega) (by omega))]
      rcases hk with rfl | rfl <;> rfl
    · have j1 : eqi (6 : Int) 1 = false := by decide
      have j2 : eqi (6 : Int) 2 = false := by decide
      have j3 : eqi (6 : Int) 3 = false := by decide
      have := spanV_len h1
      simp only [j1, j2, j3, eqi_self, cond_true, cond_false, rtexts2 (a := s.1) (b := s.2) (by omega) (by omega), ref05_Bytes_p0, n4]
      rw [gd_t (fits_p (by simp [textB_len]; omega) (by omega)), gd_t (fits_p (by simp [textB_len, bytes_len]; omega) (by omega))]
      show some _ = some (_ :: (textB s.1 ++ textB s.2 ++ bytes n 4))
      simp

theorem SameB (a : List Int) : ref05_SameBytes NN a a = some true := by simp [ref05_SameBytes]
theorem eqb_self (b : Bool) : eqb b b = true := by simp [eqb]

theorem valid_p0 (m a : Mg) : law05_MsgValid_p0 NN true m.1 m.2.1 m.2.2.1 m.2.2.2.1.1 m.2.2.2.1.2 m.2.2.2.2.1 m.2.2.2.2.2.1 m.2.2.2.2.2.2 a.1 a.2.1 a.2.2.1 a.2.2.2.1.1 a.2.2.2.1.2 a.2.2.2.2.1 a.2.2.2.2.2.1 a.2.2.2.2.2.2 = some (true, ()) := by
  have e : ∀ m : Mg, (m.1, m.2.1, m.2.2.1, (m.2.2.2.1.1, m.2.2.2.1.2), m.2.2.2.2.1, m.2.2.2.2.2.1, m.2.2.2.2.2.2) = m := fun _ => rfl
  simp only [law05_MsgValid_p0, e, Valid_eq, rValid_eq, eqb_self, cond_true, Bytes_eq, rBytes_eq, SameB]

theorem good_vld {m : Mg} (hm : Good m) : vldB m = true := by
  cases hm with
  | put k v n hk hv h0 h1 =>
    have h : (keys.all fun k => values.all fun v => inR k.length 1 65535 && decide ((v.length : Int) ≤ 64)) = true := by decide +kernel
    have := List.all_eq_true.1 (List.all_eq_true.1 h k hk) v hv
    simp only [Bool.and_eq_true] at this
    have hn : inR n 0 1000000000 = true := inR_iff.2 ⟨h0, by omega⟩
    show ((inR k.length 1 65535 && (decide ((v.length : Int) ≤ 64) && inR n 0 1000000000)) && _) = true
    rw [this.1, this.2, hn]; rfl
  | del k hk =>
    have h : (keys.all fun k => vldB (delMsg k)) = true := by decide +kernel
    exact List.all_eq_true.1 h k hk
  | drop s hs =>
    simp only [spanOk, Bool.and_eq_true, Bool.or_eq_true, decide_eq_true_eq] at hs
    have i5 : emptyB s = false := by
      simp only [emptyB]
      rcases hs.1.1 with h | h
      · rw [h]; rfl
      · rw [lts_asymm h, eqs_ne (lts_ne h).symm]; simp
    have hv : spanV s = true := by
      simp only [spanV, i5, Bool.not_false, Bool.true_and, Bool.and_eq_true, decide_eq_true_eq]; omega
    show (spanV s && _) = true
    rw [hv]; rfl
  | move e he =>
    have h : (ends.all fun e => vldB (mv 4 e)) = true := by decide +kernel
    exact List.all_eq_true.1 h e he
  | clone e he =>
    have h : (ends.all fun e => vldB (mv 5 e)) = true := by decide +kernel
    exact List.all_eq_true.1 h e he
  | stamp s n hs h0 h1 =>
    simp only [spanOk, Bool.and_eq_true, Bool.or_eq_true, decide_eq_true_eq] at hs
    have i5 : emptyB s = false := by
      simp only [emptyB]
      rcases hs.1.1 with h | h
      · rw [h]; rfl
      · rw [lts_asymm h, eqs_ne (lts_ne h).symm]; simp
    have hv : spanV s = true := by
      simp only [spanV, i5, Bool.not_false, Bool.true_and, Bool.and_eq_true, decide_eq_true_eq]; omega
    have hn : inR n 0 1000000000 = true := inR_iff.2 ⟨h0, by omega⟩
    show ((spanV s && inR n 0 1000000000) && _) = true
    rw [hv, hn]; rfl

theorem good_lens {m : Mg} (hm : Good m) : m.2.1.length ≤ 20 ∧ m.2.2.1.length ≤ 20 ∧ m.2.2.2.2.1.length ≤ 20 ∧ m.2.2.2.2.2.1.length ≤ 20 := by
  have hv : ∀ v ∈ values, v.length ≤ 20 := by
    have h : (values.all fun v => Nat.ble v.length 20) = true := by decide +kernel
    exact fun v hv => Nat.le_of_ble_eq_true (List.all_eq_true.1 h v hv)
  have hp : ∀ e ∈ ends, e.1.length ≤ 20 ∧ e.2.length ≤ 20 := by
    have h : (ends.all fun e => Nat.ble e.1.length 20 && Nat.ble e.2.length 20) = true := by decide +kernel
    intro e he
    have := List.all_eq_true.1 h e he
    simp only [Bool.and_eq_true] at this
    exact ⟨Nat.le_of_ble_eq_true this.1, Nat.le_of_ble_eq_true this.2⟩
  cases hm with
  | put k v n hk hv' => exact ⟨by have := good_key hk; simp only; omega, hv v hv', by simp, by simp⟩
  | del k hk => exact ⟨by have := good_key hk; simp only; omega, by simp, by simp, by simp⟩
  | drop s => exact ⟨by simp, by simp, by simp, by simp⟩
  | move e he => exact ⟨by simp, by simp, (hp e he).1, (hp e he).2⟩
  | clone e he => exact ⟨by simp, by simp, (hp e he).1, (hp e he).2⟩
  | stamp s n => exact ⟨by simp, by simp, by simp, by simp⟩

theorem plainValid (m : V_api_Msg) (y : V_ref05_Raw) (w : V_a2_int32) (hm : okT T_api_Msg m) (hy : okT T_ref05_Raw y) (_ : okT T_a2_int32 w) : law05_MsgValid NN m y w = some true := by
  obtain ⟨a, g1, g2⟩ := made_ok hy
  obtain ⟨l1, l2, l3, l4⟩ := good_lens g2
  obtain ⟨_, m1, m2, _, m3, m4, _⟩ := hm
  have m1 : m.2.1.length ≤ 140737488351232 := m1
  have m2 : m.2.2.1.length ≤ 140737488351232 := m2
  have m3 : m.2.2.2.2.1.length ≤ 140737488351232 := m3
  have m4 : m.2.2.2.2.2.1.length ≤ 140737488351232 := m4
  have p := fun b : Mg => valid_p0 m b
  simp only [law05_MsgValid, sanity5, g1, Valid_eq, good_vld g2, Bool.not_true, cond_false]
  cases eqi (Int.tmod (IntKind.wrap .u32 w.1) 8) 0
  case true => simp only [cond_true]; rw [p (IntKind.wrap .i64 (a.1 + IntKind.wrap .i64 w.2), a.2)]
  case false =>
  cases eqi (Int.tmod (IntKind.wrap .u32 w.1) 8) 1
  case true =>
    simp only [cond_true, cond_false]
    rw [gd_p (by simp only [maxS]; omega), p (a.1, a.2.1 ++ m.2.1, a.2.2)]
  case false =>
  cases eqi (Int.tmod (IntKind.wrap .u32 w.1) 8) 2
  case true =>
    simp only [cond_true, cond_false]
    rw [gd_p (by simp only [maxS]; omega), p (a.1, a.2.1, a.2.2.1 ++ m.2.2.1, a.2.2.2)]
  case false =>
  cases eqi (Int.tmod (IntKind.wrap .u32 w.1) 8) 3
  case true =>
    simp only [cond_true, cond_false]
    rw [p (a.1, a.2.1, a.2.2.1, (a.2.2.2.1.2, a.2.2.2.1.2), a.2.2.2.2)]
  case false =>
  cases eqi (Int.tmod (IntKind.wrap .u32 w.1) 8) 4
  case true =>
    simp only [cond_true, cond_false]
    rw [p (a.1, a.2.1, a.2.2.1, m.2.2.2.1, a.2.2.2.2)]
  case false =>
  cases eqi (Int.tmod (IntKind.wrap .u32 w.1) 8) 5
  case true =>
    simp only [cond_true, cond_false]
    rw [gd_p (by simp only [maxS]; omega), p (a.1, a.2.1, a.2.2.1, a.2.2.2.1, a.2.2.2.2.1 ++ m.2.2.2.2.1, a.2.2.2.2.2)]
  case false =>
  cases eqi (Int.tmod (IntKind.wrap .u32 w.1) 8) 6
  case true =>
    simp only [cond_true, cond_false]
    rw [gd_p (by simp only [maxS]; omega), p (a.1, a.2.1, a.2.2.1, a.2.2.2.1, a.2.2.2.2.1, a.2.2.2.2.1 ++ m.2.2.2.2.2.1, a.2.2.2.2.2.2)]
  case false =>
    simp only [cond_false]
    rw [p (a.1, a.2.1, a.2.2.1, a.2.2.2.1, a.2.2.2.2.1, a.2.2.2.2.2.1, IntKind.wrap .i64 w.2)]
end Ds
