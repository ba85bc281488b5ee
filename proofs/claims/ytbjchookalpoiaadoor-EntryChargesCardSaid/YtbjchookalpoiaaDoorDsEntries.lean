/- Entries: which are valid, their values, and what is read from values. -/
import Derived.Test.YtbjchookalpoiaaDoorDsPaths
set_option linter.all false
namespace Ds
open Go Go.Dv
set_option maxRecDepth 100000
set_option linter.unusedVariables false

abbrev En : Type := V_api_Entry
theorem sanity3 : law03_sanity NN = some true := by decide +kernel

/-! ## texts -/
section idxg
variable {p : Int → Option Bool} {ok : UInt8 → Bool}
theorem idxg_ok (hl : ∀ b : UInt8, b.toNat < 128 → (p (b.toNat : Int)).getD false = !(ok b)) (h8 : ∀ b, ok b = true → b.toNat < 128) (s : B) : ∀ (f pos : Nat), s.length ≤ pos + f → (s.drop pos).all ok = true → Lib.idxFuncFrom (fun r => (p (r : Int)).getD false) true (sB s) f pos = -1
  | 0, pos, _, _ => rfl
  | f + 1, pos, hf, ha => by
    unfold Lib.idxFuncFrom
    rw [size_sB]
    by_cases hp : pos < s.length
    · have hd : s.drop pos = s[pos] :: s.drop (pos + 1) := List.drop_eq_getElem_cons hp
      rw [hd, List.all_cons, Bool.and_eq_true] at ha
      have hb := h8 _ ha.1
      rw [if_pos hp, dec_low (sB s) pos (by rw [get_sB s pos hp]; exact hb), get_sB s pos hp]
      have := hl s[pos] hb
      simp only [this, ha.1, Bool.not_true]
      rw [if_neg (by decide)]
      exact idxg_ok hl h8 s f (pos + 1) (by omega) ha.2
    · rw [if_neg hp]
theorem idxg_bad (hl : ∀ b : UInt8, b.toNat < 128 → (p (b.toNat : Int)).getD false = !(ok b)) (hh : ∀ r : Nat, 128 ≤ r → (p (r : Int)).getD false = true) (s : B) : ∀ (f pos : Nat), s.length ≤ pos + f → (s.drop pos).all ok = false → 0 ≤ Lib.idxFuncFrom (fun r => (p (r : Int)).getD false) true (sB s) f pos
  | 0, pos, hf, ha => by
    rw [List.drop_eq_nil_of_le (by omega)] at ha
    cases ha
  | f + 1, pos, hf, ha => by
    unfold Lib.idxFuncFrom
    rw [size_sB]
    by_cases hp : pos < s.length
    · have hd : s.drop pos = s[pos] :: s.drop (pos + 1) := List.drop_eq_getElem_cons hp
      rw [hd, List.all_cons] at ha
      rw [if_pos hp]
      by_cases hb : (s[pos]).toNat < 128
      · rw [dec_low (sB s) pos (by rw [get_sB s pos hp]; exact hb), get_sB s pos hp]
        have := hl s[pos] hb
        simp only [this]
        cases ho : ok s[pos]
        · rw [if_pos (by rfl)]; omega
        · rw [if_neg (by decide)]
          rw [ho] at ha
          exact idxg_bad hl hh s f (pos + 1) (by omega) (by simpa using ha)
      · have := dec_high (sB s) pos (by rw [get_sB s pos hp]; omega)
        rw [hh _ this, if_pos rfl]; omega
    · rw [List.drop_eq_nil_of_le (by omega)] at ha
      cases ha
theorem idxg (hl : ∀ b : UInt8, b.toNat < 128 → (p (b.toNat : Int)).getD false = !(ok b)) (hh : ∀ r : Nat, 128 ≤ r → (p (r : Int)).getD false = true) (h8 : ∀ b, ok b = true → b.toNat < 128) (s : B) : decide (0 ≤ idxF p true s) = !(s.all ok) := by
  unfold idxF Lib.idxFunc
  have hlen : s.length ≤ 0 + (sB s).size := by rw [size_sB]; omega
  cases h : s.all ok
  · have := idxg_bad hl hh s (sB s).size 0 hlen h
    simpa using this
  · have := idxg_ok hl h8 s (sB s).size 0 hlen h
    rw [this]; rfl
end idxg

def okt (b : UInt8) : Bool := decide (32 ≤ b.toNat) && decide (b.toNat ≤ 126)
theorem contains_eq (s : B) : strings_ContainsFunc__entry_Valid_c2 NN s = some (!(s.all okt)) := by
  have h := idxg (p := entry_Valid_c2 NN) (ok := okt) (fun b hb => by
      have : ((List.range 128).all fun (n : Nat) => (entry_Valid_c2 NN (n : Int)).getD false == !(decide (32 ≤ n) && decide (n ≤ 126))) = true := by decide +kernel
      have := List.all_eq_true.1 this b.toNat (List.mem_range.2 hb)
      exact eq_of_beq this)
    (fun r hr => by
      have e1 : decide ((r : Int) < 32) = false := by simp; omega
      have e2 : decide ((126 : Int) < (r : Int)) = true := by simp; omega
      simp only [entry_Valid_c2, e1, e2, cond_false, Option.getD_some])
    (fun b hb => by unfold okt at hb; simp at hb; omega) s
  simp only [strings_ContainsFunc__entry_Valid_c2, strings_IndexFunc__entry_Valid_c2, strings_indexFunc__entry_Valid_c2, h]

theorem rText_l0 : ∀ (post pre : B) (n : Nat), post.length < n → pre.length + post.length < 1000000000 →
    ref03_text_l0 NN n (pre ++ post) (pre.length : Int) = some (bif post.all okt then .inr (pre ++ post, ()) else .inl (false, ()))
  | _, _, 0, h, _ => absurd h (Nat.not_lt_zero _)
  | [], pre, n + 1, _, _ => by
    rw [ref03_text_l0_succ]
    simp only [ref03_text_l0_step, lt_end, cond_false]
    rfl
  | b :: post, pre, n + 1, hn, hl => by
    simp only [List.length_cons] at hn hl
    rw [ref03_text_l0_succ]
    simp only [ref03_text_l0_step, lt_mid, cond_true, bt_mid, List.all_cons, okt]
    rw [gd_t in_mid]
    by_cases h1 : b.toNat < 32
    · have d1 : decide ((b.toNat : Int) < 32) = true := by simp; omega
      have d2 : decide (32 ≤ b.toNat) = false := by simp; omega
      simp only [d1, d2, cond_true, Bool.false_and, cond_false]
    · have d1 : decide ((b.toNat : Int) < 32) = false := by simp; omega
      have d2 : decide (32 ≤ b.toNat) = true := by simp; omega
      simp only [d1, d2, cond_false, Bool.true_and]
      rw [gd_t in_mid]
      by_cases h3 : b.toNat ≤ 126
      · have d3 : decide ((126 : Int) < (b.toNat : Int)) = false := by simp; omega
        have d4 : decide (b.toNat ≤ 126) = true := by simp; omega
        simp only [d3, d4, cond_false, Bool.true_and]
        rw [wr_mid (q := b) (by omega), app_mid (pre := pre) (q := b) (post := post)]
        exact rText_l0 post (pre ++ [b]) n (by omega) (by simp; omega)
      · have d3 : decide ((126 : Int) < (b.toNat : Int)) = true := by simp; omega
        have d4 : decide (b.toNat ≤ 126) = false := by simp; omega
        simp only [d3, d4, cond_true, Bool.false_and, cond_false]
def textB (t : B) : Bool := !(eqs t []) && (decide ((t.length : Int) ≤ 50) && t.all okt)
theorem rText_eq {t : B} (h : t.length < 1000000) : ref03_text NN t = some (textB t) := by
  have h0 := rText_l0 t [] NN (by simp only [NN]; omega) (by simp; omega)
  have z : (([] : B).length : Int) = 0 := rfl
  rw [List.nil_append, z] at h0
  simp only [ref03_text, h0, textB]
  cases t with
  | nil => rfl
  | cons b l =>
    have e1 : eqs (b :: l) [] = false := rfl
    have e2 : decide ((1 : Int) ≤ ((b :: l).length : Int)) = true := by simp; omega
    rw [e1]
    cases (b :: l).all okt
    · simp only [cond_false, Bool.and_false]
    · simp only [cond_true, e2, Bool.and_true, Bool.not_false, Bool.true_and]

/-! ## valid entries -/
def inR (n lo hi : Int) : Bool := decide (lo ≤ n) && decide (n ≤ hi)
theorem in_c1 (n m : Int) : entry_Valid_c1 NN n m = some (inR n 0 m) := by
  simp only [entry_Valid_c1, inR]
  cases decide (0 ≤ n) <;> rfl
theorem in_ref (n a b : Int) : ref03_in NN n a b = some (inR n a b) := by
  simp only [ref03_in, inR]
  cases decide (a ≤ n) <;> rfl
def okE (k s l i o : Int) (t : B) : Bool :=
  inR o 0 255 && (bif eqi k 1 then eqi s 0 && (eqi l 0 && (eqi i 0 && eqs t [])) else
    bif eqi k 2 then inR s 0 60000 && (inR l 0 1000 && (eqi i 0 && eqs t [])) else
    bif eqi k 3 then eqi s 0 && (eqi l 0 && (eqi i 0 && textB t)) else
    bif eqi k 4 then eqi s 0 && (eqi l 0 && (inR i 0 2147483647 && eqs t [])) else false)
theorem eqi_comm (a b : Int) : eqi a b = eqi b a := by unfold eqi; exact Bool.beq_comm
theorem eqs_comm (a b : B) : eqs a b = eqs b a := by unfold eqs; exact Bool.beq_comm

theorem Val_eq (k s l i o : Int) (t : B) : entry_Valid NN (k, s, l, i, o, t) = some (okE k s l i o t) := by
  have c1 : eqi 0 s = eqi s 0 := eqi_comm _ _
  have c2 : eqi 0 l = eqi l 0 := eqi_comm _ _
  have c3 : eqi 0 i = eqi i 0 := eqi_comm _ _
  have c4 : eqs [] t = eqs t [] := eqs_comm _ _
  simp only [entry_Valid, entry_Valid_p0, in_c1, contains_eq, okE, textB, eqi_self, eqs_self, Bool.true_and, Bool.and_true, c1, c2, c3, c4, Bool.not_not]
  cases eqi k 1
  case true =>
    simp only [cond_true]
    cases eqi s 0 <;> cases eqi l 0 <;> cases eqi i 0 <;> cases eqs t [] <;> cases inR o 0 255 <;> rfl
  cases eqi k 2
  case true =>
    simp only [cond_true, cond_false]
    cases inR s 0 60000 <;> cases inR l 0 1000 <;> cases eqi i 0 <;> cases eqs t [] <;> cases inR o 0 255 <;> rfl
  cases eqi k 3
  case true =>
    simp only [cond_true, cond_false]
    cases eqs t []
    · cases decide ((t.length : Int) ≤ 50)
      · cases eqi s 0 <;> cases eqi l 0 <;> cases eqi i 0 <;> cases inR o 0 255 <;> rfl
      · cases t.all okt <;> cases eqi s 0 <;> cases eqi l 0 <;> cases eqi i 0 <;> cases inR o 0 255 <;> rfl
    · cases eqi s 0 <;> cases eqi l 0 <;> cases eqi i 0 <;> cases inR o 0 255 <;> rfl
  cases eqi k 4
  case true =>
    simp only [cond_true, cond_false]
    cases eqi s 0 <;> cases eqi l 0 <;> cases inR i 0 2147483647 <;> cases eqs t [] <;> cases inR o 0 255 <;> rfl
  simp only [cond_false, Bool.and_false]

theorem rVal_eq (k s l i o : Int) {t : B} (h : t.length < 1000000) : ref03_Valid NN (k, s, l, i, o, t) = some (okE k s l i o t) := by
  simp only [ref03_Valid, in_ref, rText_eq h, okE, eqi_self, eqs_self, Bool.true_and, Bool.and_true]
  cases inR o 0 255
  case false => rfl
  simp only [Bool.not_true, cond_false, Bool.true_and]
  cases e1 : eqi k 1
  case true =>
    simp only [cond_true, Bool.true_and]
  cases e2 : eqi k 2
  case true =>
    simp only [cond_true, cond_false, Bool.true_and]
    cases inR s 0 60000 <;> cases inR l 0 1000 <;> cases eqi i 0 <;> cases eqs t [] <;> rfl
  cases e3 : eqi k 3
  case true =>
    simp only [cond_true, cond_false, Bool.true_and]
    cases eqi s 0 <;> cases eqi l 0 <;> cases eqi i 0 <;> cases textB t <;> rfl
  cases e4 : eqi k 4
  case true =>
    simp only [cond_true, cond_false, Bool.true_and]
    cases eqi s 0 <;> cases eqi l 0 <;> cases inR i 0 2147483647 <;> cases eqs t [] <;> rfl
  simp only [cond_false]

/-! ## numbers -/
def u8 (n : Int) : UInt8 := UInt8.ofNat (n % 256).toNat
theorem u8_toNat (n : Int) : ((u8 n).toNat : Int) = n % 256 := by
  unfold u8
  have h0 := Int.emod_nonneg n (b := 256) (by omega)
  have h1 := Int.emod_lt_of_pos n (b := 256) (by omega)
  have : (UInt8.ofNat (n % 256).toNat).toNat = (n % 256).toNat := by
    rw [UInt8.toNat_ofNat']; omega
  rw [this]; omega
theorem u8_of (b : UInt8) (n : Int) (h : n % 256 = (b.toNat : Int)) : u8 n = b := by
  rw [← UInt8.toNat_inj]
  have := u8_toNat n
  omega
def n2 (n : Int) : B := [u8 (n / 256), u8 n]
def n4 (n : Int) : B := [u8 (n / 16777216), u8 (n / 65536), u8 (n / 256), u8 n]
def v2 (a b : UInt8) : Int := 256 * (a.toNat : Int) + (b.toNat : Int)
def v4 (a b c d : UInt8) : Int := 256 * (256 * (256 * (a.toNat : Int) + (b.toNat : Int)) + (c.toNat : Int)) + (d.toNat : Int)
theorem n2_v2 (a b : UInt8) : n2 (v2 a b) = [a, b] := by
  have := a.toNat_lt; have := b.toNat_lt
  unfold n2 v2
  rw [u8_of a _ (by omega), u8_of b _ (by omega)]
theorem n4_v4 (a b c d : UInt8) : n4 (v4 a b c d) = [a, b, c, d] := by
  have := a.toNat_lt; have := b.toNat_lt; have := c.toNat_lt; have := d.toNat_lt
  unfold n4 v4
  rw [u8_of a _ (by omega), u8_of b _ (by omega), u8_of c _ (by omega), u8_of d _ (by omega)]
theorem v2_n2 {n : Int} (h0 : 0 ≤ n) (h1 : n < 65536) : v2 (u8 (n / 256)) (u8 n) = n := by
  unfold v2; rw [u8_toNat, u8_toNat]; omega
theorem v4_n4 {n : Int} (h0 : 0 ≤ n) (h1 : n < 4294967296) : v4 (u8 (n / 16777216)) (u8 (n / 65536)) (u8 (n / 256)) (u8 n) = n := by
  unfold v4; rw [u8_toNat, u8_toNat, u8_toNat, u8_toNat]; omega

theorem wrap8 (n : Int) : UInt8.ofNat (IntKind.wrap .u8 n).toNat = u8 n := by rw [IntKind.wrap_u8]; rfl
theorem number2 {n : Int} : entry_number NN n 2 = some (n2 n) := by
  have g : ((decide ((0 : Int) ≤ 2) && decide ((2 : Int) ≤ 2)) && (decide ((2 : Int) < maxB) && decide ((2 : Int) * 1 < maxB))) = true := by decide
  have e : List.replicate (Int.toNat (2 : Int)) (0 : Int) = [0, 0] := rfl
  have l : ((([0, 0] : List Int).length : Nat) : Int) = 2 := rfl
  have c0 : decide ((0 : Int) < 2) = true := rfl
  have c1 : decide ((1 : Int) < 2) = true := rfl
  have c2 : decide ((2 : Int) < 2) = false := rfl
  have w0 : IntKind.wrap .i64 ((8 : Int) * 0) = 0 := by decide
  have w1 : IntKind.wrap .i64 ((8 : Int) * 1) = 8 := by decide
  have x0 : IntKind.wrap .i64 (IntKind.wrap .i64 ((2 : Int) - 1) - 0) = 1 := by decide
  have x1 : IntKind.wrap .i64 (IntKind.wrap .i64 ((2 : Int) - 1) - 1) = 0 := by decide
  have y0 : IntKind.wrap .i64 ((0 : Int) + 1) = 1 := by decide
  have y1 : IntKind.wrap .i64 ((1 : Int) + 1) = 2 := by decide
  have p0 : (2 : Int) ^ min (Int.toNat (0 : Int)) (IntKind.bits .i64) = 1 := by decide
  have p1 : (2 : Int) ^ min (Int.toNat (8 : Int)) (IntKind.bits .i64) = 256 := by decide
  have f0 : Int.fdiv n 1 = n := by rw [Int.fdiv_eq_ediv_of_nonneg _ (by omega)]; omega
  have f1 : Int.fdiv n 256 = n / 256 := Int.fdiv_eq_ediv_of_nonneg _ (by omega)
  simp only [entry_number]
  rw [gd_t g, e, l]
  show (match entry_number_l0 NN (999997 + 1 + 1 + 1) n 2 2 0 [0, 0] with | some r4 => some (bytesU r4.2.1) | none => none) = _
  rw [entry_number_l0_succ]
  simp only [entry_number_l0_step, c0, cond_true, w0, x0, y0, p0, f0]
  rw [gd_t (by decide), gd_t (by decide), entry_number_l0_succ]
  simp only [entry_number_l0_step, c1, cond_true, w1, x1, y1, p1, f1]
  rw [gd_t (by decide), gd_t (by simp [inB, setL]), entry_number_l0_succ]
  simp only [entry_number_l0_step, c2, cond_false]
  show some [UInt8.ofNat (IntKind.wrap .u8 (n / 256)).toNat, UInt8.ofNat (IntKind.wrap .u8 n).toNat] = _
  rw [wrap8, wrap8]; rfl
theorem number4 {n : Int} : entry_number NN n 4 = some (n4 n) := by
  have g : ((decide ((0 : Int) ≤ 4) && decide ((4 : Int) ≤ 4)) && (decide ((4 : Int) < maxB) && decide ((4 : Int) * 1 < maxB))) = true := by decide
  have e : List.replicate (Int.toNat (4 : Int)) (0 : Int) = [0, 0, 0, 0] := rfl
  have l : ((([0, 0, 0, 0] : List Int).length : Nat) : Int) = 4 := rfl
  have c0 : decide ((0 : Int) < 4) = true := rfl
  have c1 : decide ((1 : Int) < 4) = true := rfl
  have c2 : decide ((2 : Int) < 4) = true := rfl
  have c3 : decide ((3 : Int) < 4) = true := rfl
  have c4 : decide ((4 : Int) < 4) = false := rfl
  have w0 : IntKind.wrap .i64 ((8 : Int) * 0) = 0 := by decide
  have w1 : IntKind.wrap .i64 ((8 : Int) * 1) = 8 := by decide
  have w2 : IntKind.wrap .i64 ((8 : Int) * 2) = 16 := by decide
  have w3 : IntKind.wrap .i64 ((8 : Int) * 3) = 24 := by decide
  have x0 : IntKind.wrap .i64 (IntKind.wrap .i64 ((4 : Int) - 1) - 0) = 3 := by decide
  have x1 : IntKind.wrap .i64 (IntKind.wrap .i64 ((4 : Int) - 1) - 1) = 2 := by decide
  have x2 : IntKind.wrap .i64 (IntKind.wrap .i64 ((4 : Int) - 1) - 2) = 1 := by decide
  have x3 : IntKind.wrap .i64 (IntKind.wrap .i64 ((4 : Int) - 1) - 3) = 0 := by decide
  have y0 : IntKind.wrap .i64 ((0 : Int) + 1) = 1 := by decide
  have y1 : IntKind.wrap .i64 ((1 : Int) + 1) = 2 := by decide
  have y2 : IntKind.wrap .i64 ((2 : Int) + 1) = 3 := by decide
  have y3 : IntKind.wrap .i64 ((3 : Int) + 1) = 4 := by decide
  have p0 : (2 : Int) ^ min (Int.toNat (0 : Int)) (IntKind.bits .i64) = 1 := by decide
  have p1 : (2 : Int) ^ min (Int.toNat (8 : Int)) (IntKind.bits .i64) = 256 := by decide
  have p2 : (2 : Int) ^ min (Int.toNat (16 : Int)) (IntKind.bits .i64) = 65536 := by decide
  have p3 : (2 : Int) ^ min (Int.toNat (24 : Int)) (IntKind.bits .i64) = 16777216 := by decide
  have f0 : Int.fdiv n 1 = n := by rw [Int.fdiv_eq_ediv_of_nonneg _ (by omega)]; omega
  have f1 : Int.fdiv n 256 = n / 256 := Int.fdiv_eq_ediv_of_nonneg _ (by omega)
  have f2 : Int.fdiv n 65536 = n / 65536 := Int.fdiv_eq_ediv_of_nonneg _ (by omega)
  have f3 : Int.fdiv n 16777216 = n / 16777216 := Int.fdiv_eq_ediv_of_nonneg _ (by omega)
  simp only [entry_number]
  rw [gd_t g, e, l]
  show (match entry_number_l0 NN (999995 + 1 + 1 + 1 + 1 + 1) n 4 4 0 [0, 0, 0, 0] with | some r4 => some (bytesU r4.2.1) | none => none) = _
  rw [entry_number_l0_succ]
  simp only [entry_number_l0_step, c0, cond_true, w0, x0, y0, p0, f0]
  rw [gd_t (by decide), gd_t (by decide), entry_number_l0_succ]
  simp only [entry_number_l0_step, c1, cond_true, w1, x1, y1, p1, f1]
  rw [gd_t (by decide), gd_t (by simp [inB, setL]), entry_number_l0_succ]
  simp only [entry_number_l0_step, c2, cond_true, w2, x2, y2, p2, f2]
  rw [gd_t (by decide), gd_t (by simp [inB, setL]), entry_number_l0_succ]
  simp only [entry_number_l0_step, c3, cond_true, w3, x3, y3, p3, f3]
  rw [gd_t (by decide), gd_t (by simp [inB, setL]), entry_number_l0_succ]
  simp only [entry_number_l0_step, c4, cond_false]
  show some [UInt8.ofNat (IntKind.wrap .u8 (n / 16777216)).toNat, UInt8.ofNat (IntKind.wrap .u8 (n / 65536)).toNat, UInt8.ofNat (IntKind.wrap .u8 (n / 256)).toNat, UInt8.ofNat (IntKind.wrap .u8 n).toNat] = _
  rw [wrap8, wrap8, wrap8, wrap8]; rfl

theorem rnum0 (m : Nat) (n : Int) : ref03_number_fuel NN (m + 1) n 0 = some [] := by
  rw [ref03_number_fuel_succ]; rfl
theorem rnum_step {m : Nat} {n : Int} {k : Nat} {s : B} (h0 : 0 ≤ n) (h1 : n < 4611686018427387904) (hk : k < 100) (h : ref03_number_fuel NN m (n / 256) (k : Int) = some s) (hs : s.length < 1000) : ref03_number_fuel NN (m + 1) n ((k + 1 : Nat) : Int) = some (s ++ [u8 n]) := by
  have t1 : Int.tdiv n 256 = n / 256 := Int.tdiv_eq_ediv_of_nonneg h0
  have t2 : Int.tmod n 256 = n % 256 := Int.tmod_eq_emod_of_nonneg h0
  have w1 : IntKind.wrap .i64 (n / 256) = n / 256 := w64 (by omega) (by omega)
  have w2 : IntKind.wrap .i64 (((k + 1 : Nat) : Int) - 1) = (k : Int) := by rw [w64 (by omega) (by omega)]; omega
  have z : eqi ((k + 1 : Nat) : Int) 0 = false := eqi_ne (by omega)
  have b : bytesU [IntKind.wrap .u8 (n % 256)] = [u8 n] := by
    show [UInt8.ofNat (IntKind.wrap .u8 (n % 256)).toNat] = _
    rw [wrap8]; unfold u8; rw [Int.emod_emod_of_dvd _ (by omega)]
  rw [ref03_number_fuel_succ]
  simp only [ref03_number_step, z, cond_false, t1, t2, w1, w2, h, b]
  rw [gd_p (by simp only [maxS, List.length_singleton]; omega)]
theorem rnum1 {n : Int} (h0 : 0 ≤ n) (h1 : n < 4611686018427387904) : ref03_number NN n 1 = some [u8 n] := by
  have a := rnum_step (m := 999999) (n := n) (k := 0) h0 h1 (by omega) (rnum0 999998 _) (by simp)
  exact a
theorem rnum2 {n : Int} (h0 : 0 ≤ n) (h1 : n < 4611686018427387904) : ref03_number NN n 2 = some (n2 n) := by
  have a := rnum_step (m := 999998) (n := n / 256) (k := 0) (by omega) (by omega) (by omega) (rnum0 999997 _) (by simp)
  have b := rnum_step (m := 999999) (n := n) (k := 1) h0 h1 (by omega) a (by simp)
  exact b
theorem rnum4 {n : Int} (h0 : 0 ≤ n) (h1 : n < 4611686018427387904) : ref03_number NN n 4 = some (n4 n) := by
  have a := rnum_step (m := 999996) (n := n / 256 / 256 / 256) (k := 0) (by omega) (by omega) (by omega) (rnum0 999995 _) (by simp)
  have b := rnum_step (m := 999997) (n := n / 256 / 256) (k := 1) (by omega) (by omega) (by omega) a (by simp)
  have c := rnum_step (m := 999998) (n := n / 256) (k := 2) (by omega) (by omega) (by omega) b (by simp)
  have d := rnum_step (m := 999999) (n := n) (k := 3) h0 h1 (by omega) c (by simp)
  have e1 : n / 256 / 256 = n / 65536 := by omega
  have e2 : n / 256 / 256 / 256 = n / 16777216 := by omega
  rw [e2, e1] at d
  exact d

theorem pow256 {n : Nat} (h : n ≤ 3) : (256 : Int) ^ n ≤ 16777216 := by
  match n, h with
  | 0, _ => decide
  | 1, _ => decide
  | 2, _ => decide
  | 3, _ => decide
/-- what texts of a few bytes are as numbers -/
theorem value_l0 (l : Int) : ∀ (post pre : B) (n : Nat) (acc : Int), l = ((pre ++ post).length : Int) → post.length < n → pre.length + post.length ≤ 4 → 0 ≤ acc → acc < 256 ^ pre.length →
    entry_value_l0 NN n (pre ++ post) acc l (pre.length : Int) = some (post.foldl (fun a b => 256 * a + (b.toNat : Int)) acc, ())
  | _, _, 0, _, _, h, _, _, _ => absurd h (Nat.not_lt_zero _)
  | [], pre, n + 1, acc, hl, _, _, _, _ => by
    subst hl
    rw [entry_value_l0_succ]
    simp only [entry_value_l0_step, lt_end, cond_false, List.foldl_nil]
  | b :: post, pre, n + 1, acc, hl, hn, h4, a0, a1 => by
    subst hl
    simp only [List.length_cons] at hn h4
    have ub := b.toNat_lt
    have p4 := pow256 (n := pre.length) (by omega)
    have o := or_step (n := acc) (x := (b.toNat : Int)) a0 (by omega) (by omega) (by omega)
    rw [entry_value_l0_succ]
    simp only [entry_value_l0_step, lt_mid, cond_true, bt_mid, o]
    rw [gd_t (by decide), gd_t in_mid, wr_mid (q := b) (by omega), app_mid (pre := pre) (q := b) (post := post)]
    rw [value_l0 _ post (pre ++ [b]) n _ rfl (by omega) (by simp; omega) (by omega) (by
      rw [List.length_append, List.length_singleton, Int.pow_succ]; omega)]
    rw [List.foldl_cons, Int.mul_comm acc 256]
theorem value2 (a b : UInt8) : entry_value NN [a, b] = some (v2 a b) := by
  have h := value_l0 2 [a, b] [] NN 0 rfl (by simp [NN]) (by simp) (by omega) (by decide)
  have h : entry_value_l0 NN NN [a, b] 0 2 0 = some (v2 a b, ()) := by
    refine h.trans ?_
    simp [v2]
  simp only [entry_value]
  show (match entry_value_l0 NN NN [a, b] 0 2 0 with | some r3 => some r3.1 | none => none) = _
  rw [h]
theorem value4 (a b c d : UInt8) : entry_value NN [a, b, c, d] = some (v4 a b c d) := by
  have h := value_l0 4 [a, b, c, d] [] NN 0 rfl (by simp [NN]) (by simp) (by omega) (by decide)
  have h : entry_value_l0 NN NN [a, b, c, d] 0 4 0 = some (v4 a b c d, ()) := by
    refine h.trans ?_
    simp [v4]
  simp only [entry_value]
  show (match entry_value_l0 NN NN [a, b, c, d] 0 4 0 with | some r3 => some r3.1 | none => none) = _
  rw [h]
theorem rread_l0 : ∀ (post pre : B) (n : Nat) (acc : Int), post.length < n → pre.length + post.length ≤ 4 → 0 ≤ acc → acc < 256 ^ pre.length →
    ref03_read_l0 NN n (pre ++ post) acc (pre.length : Int) = some (post.foldl (fun a b => 256 * a + (b.toNat : Int)) acc, ())
  | _, _, 0, _, h, _, _, _ => absurd h (Nat.not_lt_zero _)
  | [], pre, n + 1, acc, _, _, _, _ => by
    rw [ref03_read_l0_succ]
    simp only [ref03_read_l0_step, lt_end, cond_false, List.foldl_nil]
  | b :: post, pre, n + 1, acc, hn, h4, a0, a1 => by
    simp only [List.length_cons] at hn h4
    have ub := b.toNat_lt
    have p4 := pow256 (n := pre.length) (by omega)
    have w1 : IntKind.wrap .i64 (b.toNat : Int) = (b.toNat : Int) := w64 (by omega) (by omega)
    have w2 : IntKind.wrap .i64 ((256 : Int) * acc) = 256 * acc := w64 (by omega) (by omega)
    have w3 : IntKind.wrap .i64 (256 * acc + (b.toNat : Int)) = 256 * acc + (b.toNat : Int) := w64 (by omega) (by omega)
    rw [ref03_read_l0_succ]
    simp only [ref03_read_l0_step, lt_mid, cond_true, bt_mid, w1, w2, w3]
    rw [gd_t in_mid, wr_mid (q := b) (by omega), app_mid (pre := pre) (q := b) (post := post)]
    rw [rread_l0 post (pre ++ [b]) n _ (by omega) (by simp; omega) (by omega) (by
      rw [List.length_append, List.length_singleton, Int.pow_succ]; omega)]
    rw [List.foldl_cons]
theorem rread2 (a b : UInt8) : ref03_read NN [a, b] = some (v2 a b) := by
  have h := rread_l0 [a, b] [] NN 0 (by simp [NN]) (by simp) (by omega) (by decide)
  have h : ref03_read_l0 NN NN [a, b] 0 0 = some (v2 a b, ()) := by
    refine h.trans ?_
    simp [v2]
  simp only [ref03_read, h]
theorem rread4 (a b c d : UInt8) : ref03_read NN [a, b, c, d] = some (v4 a b c d) := by
  have h := rread_l0 [a, b, c, d] [] NN 0 (by simp [NN]) (by simp) (by omega) (by decide)
  have h : ref03_read_l0 NN NN [a, b, c, d] 0 0 = some (v4 a b c d, ()) := by
    refine h.trans ?_
    simp [v4]
  simp only [ref03_read, h]
end Ds

/- Values of entries, and what is read from values. -/
namespace Ds
open Go Go.Dv
set_option maxRecDepth 100000
set_option linter.unusedVariables false

def restE (k s l i : Int) (t : B) : B := bif eqi k 2 then n2 s ++ n2 l else bif eqi k 3 then t else bif eqi k 4 then n4 i else []
def valB (k s l i o : Int) (t : B) : B := [u8 k, u8 o] ++ restE k s l i t
def ZE : En := (0, 0, 0, 0, 0, [])
def encS (k s l i o : Int) (t : B) : B × Int := bif okE k s l i o t then (valB k s l i o t, 0) else ([], 30)

structure OkE (k s l i o : Int) (t : B) : Prop where
  k1 : 1 ≤ k
  k4 : k ≤ 4
  o0 : 0 ≤ o
  o1 : o ≤ 255
  s0 : 0 ≤ s
  s1 : s ≤ 60000
  l0 : 0 ≤ l
  l1 : l ≤ 1000
  i0 : 0 ≤ i
  i1 : i ≤ 2147483647
  t1 : t.length ≤ 50
  ks : k ≠ 2 → s = 0 ∧ l = 0
  kt : k ≠ 3 → t = []
  kt3 : k = 3 → t ≠ [] ∧ t.all okt = true
  ki : k ≠ 4 → i = 0
theorem inR_iff {n a b : Int} : inR n a b = true ↔ a ≤ n ∧ n ≤ b := by simp [inR]
theorem okE_of {k s l i o : Int} {t : B} (h : okE k s l i o t = true) : OkE k s l i o t := by
  unfold okE at h
  rw [Bool.and_eq_true, inR_iff] at h
  obtain ⟨⟨o0, o1⟩, h⟩ := h
  by_cases h1 : k = 1
  · subst h1
    simp only [q11, cond_true, Bool.and_eq_true, eqi_iff, eqs_iff] at h
    obtain ⟨rfl, rfl, rfl, rfl⟩ := h
    exact ⟨by omega, by omega, o0, o1, by omega, by omega, by omega, by omega, by omega, by omega, by simp, fun _ => ⟨rfl, rfl⟩, fun _ => rfl, fun h => absurd h (by decide), fun _ => rfl⟩
  by_cases h2 : k = 2
  · subst h2
    simp only [q21, q22, cond_true, cond_false, Bool.and_eq_true, eqi_iff, eqs_iff, inR_iff] at h
    obtain ⟨hs, hl, rfl, rfl⟩ := h
    exact ⟨by omega, by omega, o0, o1, hs.1, hs.2, hl.1, hl.2, by omega, by omega, by simp, fun h => absurd rfl h, fun _ => rfl, fun h => absurd h (by decide), fun _ => rfl⟩
  by_cases h3 : k = 3
  · subst h3
    simp only [q31, q32, q33, cond_true, cond_false, Bool.and_eq_true, eqi_iff, textB, decide_eq_true_eq] at h
    obtain ⟨rfl, rfl, rfl, h4, h5, h6⟩ := h
    have hne : t ≠ [] := fun e => by rw [e] at h4; cases h4
    exact ⟨by omega, by omega, o0, o1, by omega, by omega, by omega, by omega, by omega, by omega, by omega, fun _ => ⟨rfl, rfl⟩, fun h => absurd rfl h, fun _ => ⟨hne, h6⟩, fun _ => rfl⟩
  by_cases h4 : k = 4
  · subst h4
    simp only [q41, q42, q43, q44, cond_true, cond_false, Bool.and_eq_true, eqi_iff, eqs_iff, inR_iff] at h
    obtain ⟨rfl, rfl, hi, rfl⟩ := h
    exact ⟨by omega, by omega, o0, o1, by omega, by omega, by omega, by omega, hi.1, hi.2, by simp, fun _ => ⟨rfl, rfl⟩, fun _ => rfl, fun h => absurd h (by decide), fun h => absurd rfl h⟩
  · rw [eqi_ne h1, eqi_ne h2, eqi_ne h3, eqi_ne h4] at h
    cases h

theorem restE_len {k s l i o : Int} {t : B} (h : OkE k s l i o t) : (restE k s l i t).length ≤ 50 := by
  have := h.t1
  unfold restE
  cases eqi k 2
  · cases eqi k 3
    · cases eqi k 4
      · simp
      · simp [n4]
    · simpa using this
  · simp [n2]

theorem Enc_eq (k s l i o : Int) (t : B) : entry_Encode NN (k, s, l, i, o, t) = some (encS k s l i o t) := by
  simp only [entry_Encode, Val_eq, encS]
  cases ho : okE k s l i o t
  · rfl
  · have H := okE_of ho
    simp only [Bool.not_true, cond_false, cond_true, entry_kinds, entry_kinds_c7, entry_kinds_c5, entry_kinds_c3, entry_kinds_c1, number2, number4]
    have hb : ∀ x : Int, bytesU [IntKind.wrap .u8 k, IntKind.wrap .u8 o] = [u8 k, u8 o] := fun _ => by
      show [UInt8.ofNat (IntKind.wrap .u8 k).toNat, UInt8.ofNat (IntKind.wrap .u8 o).toNat] = _
      rw [wrap8, wrap8]
    have ht := H.t1
    have g1 : ∀ {R : Type} (x : B) (K : Option R), x.length ≤ 50 → gd (decide (([u8 k, u8 o] : B).length + x.length < maxS)) K = K := fun x K h => gd_p (by simp only [maxS, List.length_cons, List.length_nil]; omega) K
    have g2 : ∀ {R : Type} (a b : Int) (K : Option R), gd (decide ((n2 a).length + (n2 b).length < maxS)) K = K := fun a b K => gd_p (by simp only [maxS, n2, List.length_cons, List.length_nil]; omega) K
    simp only [hb 0, g2]
    rw [g1 (n4 i) _ (by simp [n4]), g1 t _ ht, g1 (n2 s ++ n2 l) _ (by simp [n2]), g1 [] _ (by simp)]
    unfold valB restE
    have k1 := H.k1
    have k4 := H.k4
    by_cases h1 : k = 1
    · subst h1; rfl
    by_cases h2 : k = 2
    · subst h2; rfl
    by_cases h3 : k = 3
    · subst h3; rfl
    by_cases h4 : k = 4
    · subst h4; rfl
    · omega

theorem rEnc_eq (k s l i o : Int) {t : B} (h : t.length < 1000000) : ref03_Encode NN (k, s, l, i, o, t) = some (encS k s l i o t) := by
  simp only [ref03_Encode, rVal_eq k s l i o h, encS]
  cases ho : okE k s l i o t
  · rfl
  · have H := okE_of ho
    have k1 := H.k1; have k4 := H.k4; have o0 := H.o0; have o1 := H.o1; have s0 := H.s0; have s1 := H.s1; have l0 := H.l0; have l1 := H.l1; have i0 := H.i0; have i1 := H.i1; have ht := H.t1
    simp only [Bool.not_true, cond_false, cond_true, rnum1 (n := k) (by omega) (by omega), rnum1 (n := o) (by omega) (by omega), rnum2 (n := s) (by omega) (by omega), rnum2 (n := l) (by omega) (by omega), rnum4 (n := i) (by omega) (by omega)]
    have g0 : ∀ {R : Type} (K : Option R), gd (decide (([u8 k] : B).length + ([u8 o] : B).length < maxS)) K = K := fun K => gd_p (by simp only [maxS, List.length_singleton]; omega) K
    have g1 : ∀ {R : Type} (x : B) (K : Option R), x.length ≤ 50 → gd (decide ((([u8 k] : B) ++ ([u8 o] : B)).length + x.length < maxS)) K = K := fun x K h => gd_p (by simp only [maxS, List.length_append, List.length_singleton]; omega) K
    have g2 : ∀ {R : Type} (a b : Int) (K : Option R), gd (decide ((n2 a).length + (n2 b).length < maxS)) K = K := fun a b K => gd_p (by simp only [maxS, n2, List.length_cons, List.length_nil]; omega) K
    simp only [g0, g2]
    rw [g1 (n4 i) _ (by simp [n4]), g1 t _ ht, g1 (n2 s ++ n2 l) _ (by simp [n2])]
    unfold valB restE
    by_cases h1 : k = 1
    · subst h1; rfl
    by_cases h2 : k = 2
    · subst h2; rfl
    by_cases h3 : k = 3
    · subst h3; rfl
    by_cases h4 : k = 4
    · subst h4; rfl
    · omega

/-! ## reading -/
def rdE (a b : UInt8) (r : B) : Option En :=
  bif eqi (a.toNat : Int) 4 then (match r with | [w, x, y, z] => some (4, 0, 0, v4 w x y z, (b.toNat : Int), []) | _ => none) else
  bif eqi (a.toNat : Int) 3 then some (3, 0, 0, 0, (b.toNat : Int), r) else
  bif eqi (a.toNat : Int) 2 then (match r with | [w, x, y, z] => some (2, v2 w x, v2 y z, 0, (b.toNat : Int), []) | _ => none) else
  bif eqi (a.toNat : Int) 1 then (match r with | [] => some (1, 0, 0, 0, (b.toNat : Int), []) | _ => none) else none
def okP (e : En) : Bool := okE e.1 e.2.1 e.2.2.1 e.2.2.2.1 e.2.2.2.2.1 e.2.2.2.2.2
def valP (e : En) : B := valB e.1 e.2.1 e.2.2.1 e.2.2.2.1 e.2.2.2.2.1 e.2.2.2.2.2
def decS (v : B) : En × Int := match v with
  | a :: b :: r => (match rdE a b r with | some e => bif okP e then (e, 0) else (ZE, 30) | none => (ZE, 30))
  | _ => (ZE, 30)

theorem cutrest (a b : UInt8) (r : B) : cut2 (a :: b :: r) (2 : Int) ((a :: b :: r).length : Int) = r := by
  unfold cut2
  show List.take _ r = r
  exact List.take_of_length_le (by simp; omega)
theorem len4 {r : B} : eqi (r.length : Int) 4 = true ↔ ∃ w x y z, r = [w, x, y, z] := by
  rw [eqi_iff]
  constructor
  · intro h
    match r, h with
    | [w, x, y, z], _ => exact ⟨w, x, y, z, rfl⟩
    | [], h => simp at h
    | [_], h => simp at h
    | [_, _], h => simp at h
    | [_, _, _], h => simp at h
    | _ :: _ :: _ :: _ :: _ :: _, h => simp at h; omega
  · rintro ⟨w, x, y, z, rfl⟩; rfl
theorem rd4_none {a b : UInt8} {r : B} (ha : (a.toNat : Int) = 4 ∨ (a.toNat : Int) = 2) (h : eqi (r.length : Int) 4 = false) : rdE a b r = none := by
  have : (match r with | [w, x, y, z] => some (4, 0, 0, v4 w x y z, (b.toNat : Int), ([] : B)) | _ => (none : Option En)) = none := by
    split
    · cases h
    · rfl
  have this2 : (match r with | [w, x, y, z] => some (2, v2 w x, v2 y z, 0, (b.toNat : Int), ([] : B)) | _ => (none : Option En)) = none := by
    split
    · cases h
    · rfl
  unfold rdE
  rcases ha with ha | ha
  · rw [ha, q44]; exact this
  · rw [ha, q24, q23, q22]; exact this2

theorem ex_num {a : UInt8} : ∃ n : Nat, (a.toNat : Int) = n ∧ n < 256 := ⟨a.toNat, rfl, a.toNat_lt⟩

theorem Dec_eq {v : B} (h : v.length < 1000000) : entry_Decode NN v = some (decS v) := by
  have dp : ∀ x k s l i o t, entry_Decode_p0 NN x 0 0 0 0 0 [] k s l i o t = some (bif x then .inl (((), 30), (ZE, ())) else .inr (((), ()), (ZE, ((k, s, l, i, o, t), ())))) := fun x k s l i o t => by cases x <;> rfl
  match v with
  | [] => rfl
  | [_] => rfl
  | a :: b :: r =>
    simp only [List.length_cons] at h
    have d1 : decide (((a :: b :: r).length : Int) < 2) = false := by simp; omega
    have ua := a.toNat_lt
    have ub := b.toNat_lt
    have b0 : bt (a :: b :: r) 0 = (a.toNat : Int) := rfl
    have b1 : bt (a :: b :: r) 1 = (b.toNat : Int) := rfl
    have wa : IntKind.wrap .i64 (a.toNat : Int) = (a.toNat : Int) := w64 (by omega) (by omega)
    have wb : IntKind.wrap .i64 (b.toNat : Int) = (b.toNat : Int) := w64 (by omega) (by omega)
    have g0 : ∀ {R : Type} (K : Option R), gd (inB 0 (a :: b :: r).length) K = K := fun K => gd_t (by simp [inB]; omega) K
    have g1 : ∀ {R : Type} (K : Option R), gd (inB 1 (a :: b :: r).length) K = K := fun K => gd_t (by simp [inB]; omega) K
    have g2 : ∀ {R : Type} (K : Option R), gd (decide (0 ≤ (2 : Int)) && (decide ((2 : Int) ≤ ((a :: b :: r).length : Int)) && decide (((a :: b :: r).length : Int) ≤ ((a :: b :: r).length : Int)))) K = K := fun K => gd_t (by simp; omega) K
    simp only [entry_Decode, d1, cond_false, b0, b1, wa, wb, g0, g1, g2, cutrest, entry_kinds, dp, cond_true, entry_kinds_c8_m, entry_kinds_c6_m, entry_kinds_c4_m, entry_kinds_c2_m]
    by_cases h4 : (a.toNat : Int) = 4
    · have e1 : decide ((a.toNat : Int) < 1) = false := by simp; omega
      have e2 : decide ((4 : Int) < (a.toNat : Int)) = false := by simp; omega
      simp only [e1, e2, cond_false]
      cases e : eqi (r.length : Int) 4
      · simp only [decS, rd4_none (b := b) (.inl h4) e]
        rw [h4]; rfl
      · obtain ⟨w, x, y, z, rfl⟩ := len4.1 e
        simp only [decS, rdE, h4, q44, cond_true, Bool.not_true, cond_false, value4, Val_eq]
        simp only [okP]
        cases okE 4 0 0 (v4 w x y z) (b.toNat : Int) [] <;> rfl
    by_cases h3 : (a.toNat : Int) = 3
    · have e1 : decide ((a.toNat : Int) < 1) = false := by simp; omega
      have e2 : decide ((4 : Int) < (a.toNat : Int)) = false := by simp; omega
      simp only [e1, e2, cond_false, decS, rdE, h3, q34, q33, cond_true, Bool.not_true, Val_eq, okP]
      cases okE 3 0 0 0 (b.toNat : Int) r <;> rfl
    by_cases h2 : (a.toNat : Int) = 2
    · have e1 : decide ((a.toNat : Int) < 1) = false := by simp; omega
      have e2 : decide ((4 : Int) < (a.toNat : Int)) = false := by simp; omega
      simp only [e1, e2, cond_false]
      cases e : eqi (r.length : Int) 4
      · simp only [decS, rd4_none (b := b) (.inr h2) e]
        rw [h2]; rfl
      · obtain ⟨w, x, y, z, rfl⟩ := len4.1 e
        have c1 : cut2 [w, x, y, z] (0 : Int) (2 : Int) = [w, x] := rfl
        have c2 : cut2 [w, x, y, z] (2 : Int) (([w, x, y, z] : B).length : Int) = [y, z] := rfl
        have k1 : ∀ {R : Type} (K : Option R), gd (decide (0 ≤ (0 : Int)) && (decide ((0 : Int) ≤ (2 : Int)) && decide ((2 : Int) ≤ (([w, x, y, z] : B).length : Int)))) K = K := fun K => gd_t rfl K
        have k2 : ∀ {R : Type} (K : Option R), gd (decide (0 ≤ (2 : Int)) && (decide ((2 : Int) ≤ (([w, x, y, z] : B).length : Int)) && decide ((([w, x, y, z] : B).length : Int) ≤ (([w, x, y, z] : B).length : Int)))) K = K := fun K => gd_t rfl K
        simp only [decS, rdE, h2, q24, q23, q22, cond_true, Bool.not_true, cond_false, c1, c2, k1, k2, value2, Val_eq]
        simp only [okP]
        cases okE 2 (v2 w x) (v2 y z) 0 (b.toNat : Int) [] <;> rfl
    by_cases h1 : (a.toNat : Int) = 1
    · have e1 : decide ((a.toNat : Int) < 1) = false := by simp; omega
      have e2 : decide ((4 : Int) < (a.toNat : Int)) = false := by simp; omega
      simp only [e1, e2, cond_false, decS, rdE, h1, q14, q13, q12, q11, cond_true, Val_eq, okP]
      cases r with
      | nil =>
        simp only [eqs_self, Bool.not_true, cond_false]
        cases okE 1 0 0 0 (b.toNat : Int) [] <;> rfl
      | cons c r =>
        have : eqs (c :: r) [] = false := rfl
        simp only [this, Bool.not_false, cond_true]
        rfl
    · have hr : rdE a b r = none := by
        unfold rdE
        rw [eqi_ne h4, eqi_ne h3, eqi_ne h2, eqi_ne h1]; rfl
      simp only [decS, hr]
      cases e1 : decide ((a.toNat : Int) < 1)
      · have e1 := of_decide_eq_false e1
        have e2 : decide ((4 : Int) < (a.toNat : Int)) = true := by simp; omega
        simp only [e2, cond_false, cond_true]
      · rfl

/-! ## values and reading -/
theorem val_len {k s l i o : Int} {t : B} (h : OkE k s l i o t) : (valB k s l i o t).length ≤ 52 ∧ 2 ≤ (valB k s l i o t).length := by
  have := restE_len h
  unfold valB
  simp only [List.length_append, List.length_cons, List.length_nil]; omega
theorem rd_val {k s l i o : Int} {t : B} (h : OkE k s l i o t) : rdE (u8 k) (u8 o) (restE k s l i t) = some (k, s, l, i, o, t) := by
  have ek : ((u8 k).toNat : Int) = k := by have := u8_toNat k; have := h.k1; have := h.k4; omega
  have eo : ((u8 o).toNat : Int) = o := by have := u8_toNat o; have := h.o0; have := h.o1; omega
  unfold rdE restE
  rw [ek, eo]
  have k1 := h.k1; have k4 := h.k4
  by_cases h1 : k = 1
  · subst h1
    obtain ⟨rfl, rfl⟩ := h.ks (by decide)
    rw [h.kt (by decide), h.ki (by decide)]; rfl
  by_cases h2 : k = 2
  · subst h2
    have e1 := v2_n2 (n := s) h.s0 (by have := h.s1; omega)
    have e2 := v2_n2 (n := l) h.l0 (by have := h.l1; omega)
    rw [h.kt (by decide), h.ki (by decide)]
    show some ((2 : Int), v2 (u8 (s / 256)) (u8 s), v2 (u8 (l / 256)) (u8 l), (0 : Int), o, ([] : B)) = _
    rw [e1, e2]
  by_cases h3 : k = 3
  · subst h3
    obtain ⟨rfl, rfl⟩ := h.ks (by decide)
    rw [h.ki (by decide)]; rfl
  by_cases h4 : k = 4
  · subst h4
    obtain ⟨rfl, rfl⟩ := h.ks (by decide)
    have e1 := v4_n4 (n := i) h.i0 (by have := h.i1; omega)
    rw [h.kt (by decide)]
    show some ((4 : Int), (0 : Int), (0 : Int), v4 (u8 (i / 16777216)) (u8 (i / 65536)) (u8 (i / 256)) (u8 i), o, ([] : B)) = _
    rw [e1]
  · omega
/-- a valid entry is read from its value -/
theorem dec_val {e : En} (h : okP e = true) : decS (valP e) = (e, 0) := by
  obtain ⟨k, s, l, i, o, t⟩ := e
  have H := okE_of (show okE k s l i o t = true from h)
  show (match rdE (u8 k) (u8 o) (restE k s l i t) with | some e => bif okP e then (e, (0 : Int)) else (ZE, 30) | none => (ZE, 30)) = _
  rw [rd_val H]
  show (bif okP (k, s, l, i, o, t) then _ else _) = _
  rw [h]; rfl
theorem rd_back {a b : UInt8} {r : B} {e : En} (h : rdE a b r = some e) : valP e = a :: b :: r := by
  have ub : u8 (b.toNat : Int) = b := u8_of b _ (by have := b.toNat_lt; omega)
  have ka : ∀ n : Int, (a.toNat : Int) = n → u8 n = a := fun n hn => u8_of a _ (by have := a.toNat_lt; omega)
  unfold rdE at h
  cases e4 : eqi (a.toNat : Int) 4
  case true =>
    rw [e4, cond_true] at h
    split at h
    · rename_i w x y z
      cases h
      show [u8 4, u8 (b.toNat : Int)] ++ n4 (v4 w x y z) = _
      rw [ub, ka 4 (eqi_iff.1 e4), n4_v4]; rfl
    · cases h
  rw [e4, cond_false] at h
  cases e3 : eqi (a.toNat : Int) 3
  case true =>
    rw [e3, cond_true] at h
    cases h
    show [u8 3, u8 (b.toNat : Int)] ++ r = _
    rw [ub, ka 3 (eqi_iff.1 e3)]; rfl
  rw [e3, cond_false] at h
  cases e2 : eqi (a.toNat : Int) 2
  case true =>
    rw [e2, cond_true] at h
    split at h
    · rename_i w x y z
      cases h
      show [u8 2, u8 (b.toNat : Int)] ++ (n2 (v2 w x) ++ n2 (v2 y z)) = _
      rw [ub, ka 2 (eqi_iff.1 e2), n2_v2, n2_v2]; rfl
    · cases h
  rw [e2, cond_false] at h
  cases e1 : eqi (a.toNat : Int) 1
  case true =>
    rw [e1, cond_true] at h
    split at h
    · cases h
      show [u8 1, u8 (b.toNat : Int)] ++ [] = _
      rw [ub, ka 1 (eqi_iff.1 e1)]; rfl
    · cases h
  rw [e1] at h; cases h
/-- what is read is valid, and has that value -/
theorem dec_cases (v : B) : (∃ e, decS v = (e, 0) ∧ okP e = true ∧ valP e = v) ∨ decS v = (ZE, 30) := by
  match v with
  | [] => exact .inr rfl
  | [_] => exact .inr rfl
  | a :: b :: r =>
    cases hr : rdE a b r with
    | none => exact .inr (by simp only [decS, hr])
    | some e =>
      cases ho : okP e
      · exact .inr (by simp only [decS, hr, ho, cond_false])
      · exact .inl ⟨e, by simp only [decS, hr, ho, cond_true], ho, rd_back hr⟩
theorem dec_of {v : B} {e : En} (h : decS v = (e, 0)) : okP e = true ∧ valP e = v := by
  rcases dec_cases v with ⟨e', h1, h2, h3⟩ | h1
  · rw [h] at h1; cases h1; exact ⟨h2, h3⟩
  · rw [h] at h1; cases h1
theorem val_inj {e f : En} (he : okP e = true) (hf : okP f = true) (h : valP e = valP f) : e = f := by
  have h1 := dec_val he
  rw [h, dec_val hf] at h1
  cases h1; rfl

/-! ## the reference's reading -/
theorem rdp1 (v : B) (k s l i o : Int) {t : B} (h : t.length < 1000000) : ref03_Decode_p1 NN v 0 0 0 0 0 [] k s l i o t = some (bif okE k s l i o t && eqs (valB k s l i o t) v then (((), (0 : Int)), ((k, s, l, i, o, t), ())) else (((), (30 : Int)), (ZE, ()))) := by
  have z : eqi (0 : Int) 0 = true := rfl
  have z3 : eqi (30 : Int) 0 = false := rfl
  simp only [ref03_Decode_p1, rEnc_eq k s l i o h, encS]
  cases okE k s l i o t
  · simp only [cond_false, z3, Bool.not_false, cond_true, Bool.false_and]; rfl
  · simp only [cond_true, z, Bool.not_true, cond_false, Bool.true_and]
    cases eqs (valB k s l i o t) v <;> rfl
theorem dec_none {v : B} {k s l i o : Int} {t : B} (hd : decS v = (ZE, 30)) : (okE k s l i o t && eqs (valB k s l i o t) v) = false := by
  cases h : okE k s l i o t && eqs (valB k s l i o t) v
  · rfl
  · simp only [Bool.and_eq_true, eqs_iff] at h
    have := dec_val (e := (k, s, l, i, o, t)) h.1
    rw [show valP (k, s, l, i, o, t) = v from h.2, hd] at this
    cases this
theorem dec_some {v : B} {e : En} (hd : decS v = (e, 0)) : (okE e.1 e.2.1 e.2.2.1 e.2.2.2.1 e.2.2.2.2.1 e.2.2.2.2.2 && eqs (valB e.1 e.2.1 e.2.2.1 e.2.2.2.1 e.2.2.2.2.1 e.2.2.2.2.2) v) = true := by
  obtain ⟨h1, h2⟩ := dec_of hd
  simp only [Bool.and_eq_true, eqs_iff]
  exact ⟨h1, h2⟩

theorem rDec_eq {v : B} (h : v.length < 100000) : ref03_Decode NN v = some (decS v) := by
  match v with
  | [] => rfl
  | [_] => rfl
  | a :: b :: r =>
    simp only [List.length_cons] at h
    have d1 : decide (((a :: b :: r).length : Int) < 2) = false := by simp; omega
    have ua := a.toNat_lt
    have ub := b.toNat_lt
    have b0 : bt (a :: b :: r) 0 = (a.toNat : Int) := rfl
    have b1 : bt (a :: b :: r) 1 = (b.toNat : Int) := rfl
    have wa : IntKind.wrap .i64 (a.toNat : Int) = (a.toNat : Int) := w64 (by omega) (by omega)
    have wb : IntKind.wrap .i64 (b.toNat : Int) = (b.toNat : Int) := w64 (by omega) (by omega)
    have g0 : ∀ {R : Type} (K : Option R), gd (inB 0 (a :: b :: r).length) K = K := fun K => gd_t (by simp [inB]; omega) K
    have g1 : ∀ {R : Type} (K : Option R), gd (inB 1 (a :: b :: r).length) K = K := fun K => gd_t (by simp [inB]; omega) K
    have g2 : ∀ {R : Type} (K : Option R), gd (decide (0 ≤ (2 : Int)) && (decide ((2 : Int) ≤ ((a :: b :: r).length : Int)) && decide (((a :: b :: r).length : Int) ≤ ((a :: b :: r).length : Int)))) K = K := fun K => gd_t (by simp; omega) K
    have fin : ∀ (k s l i o : Int) (t : B), t.length < 1000000 → (∀ e, decS (a :: b :: r) = (e, 0) → e = (k, s, l, i, o, t)) →
        (match (bif okE k s l i o t && eqs (valB k s l i o t) (a :: b :: r) then (((), (0 : Int)), ((k, s, l, i, o, t), ())) else (((), (30 : Int)), (ZE, ()))) with | r19 => (r19.2.1, r19.1.2)) = decS (a :: b :: r) := by
      intro k s l i o t ht he
      rcases dec_cases (a :: b :: r) with ⟨e, h1, h2, h3⟩ | h1
      · have e1 := he e h1
        subst e1
        rw [show (okE k s l i o t && eqs (valB k s l i o t) (a :: b :: r)) = true from dec_some h1, h1]; rfl
      · rw [dec_none h1, h1]; rfl
    simp only [ref03_Decode, d1, cond_false, b0, b1, wa, wb, g0, g1, g2, cutrest]
    have rdof : ∀ e, decS (a :: b :: r) = (e, 0) → rdE a b r = some e := fun e he => by
      cases hr : rdE a b r with
      | none => simp only [decS, hr] at he; cases he
      | some x =>
        cases ho : okP x
        · simp only [decS, hr, ho, cond_false] at he; cases he
        · simp only [decS, hr, ho, cond_true] at he; cases he; rfl
    by_cases h4 : (a.toNat : Int) = 4
    · rw [h4, q42]
      simp only [cond_false, ref03_Decode_p0, q43, q44, cond_true]
      cases e : eqi (r.length : Int) 4
      · simp only [cond_false, rdp1 _ _ _ _ _ _ (show ([] : B).length < 1000000 by simp)]
        refine congrArg some (fin 4 0 0 0 (b.toNat : Int) [] (by simp) fun e' he => ?_)
        have := rdof e' he
        rw [rd4_none (.inl h4) e] at this; cases this
      · obtain ⟨w, x, y, z, rfl⟩ := len4.1 e
        simp only [cond_true, rread4, rdp1 _ _ _ _ _ _ (show ([] : B).length < 1000000 by simp)]
        refine congrArg some (fin 4 0 0 (v4 w x y z) (b.toNat : Int) [] (by simp) fun e' he => ?_)
        have := rdof e' he
        simp only [rdE, h4, q44, cond_true] at this
        exact (Option.some.inj this).symm
    by_cases h3 : (a.toNat : Int) = 3
    · rw [h3, q32]
      simp only [cond_false, ref03_Decode_p0, q33, q34, cond_true, rdp1 _ _ _ _ _ _ (show r.length < 1000000 by omega)]
      refine congrArg some (fin 3 0 0 0 (b.toNat : Int) r (by omega) fun e' he => ?_)
      have := rdof e' he
      simp only [rdE, h3, q34, q33, cond_true, cond_false] at this
      exact (Option.some.inj this).symm
    by_cases h2 : (a.toNat : Int) = 2
    · rw [h2, q22]
      simp only [cond_true, ref03_Decode_p0, q23, q24, cond_false]
      cases e : eqi (r.length : Int) 4
      · simp only [cond_false, rdp1 _ _ _ _ _ _ (show ([] : B).length < 1000000 by simp)]
        refine congrArg some (fin 2 0 0 0 (b.toNat : Int) [] (by simp) fun e' he => ?_)
        have := rdof e' he
        rw [rd4_none (.inr h2) e] at this; cases this
      · obtain ⟨w, x, y, z, rfl⟩ := len4.1 e
        have c1 : cut2 [w, x, y, z] (0 : Int) (2 : Int) = [w, x] := rfl
        have c2 : cut2 [w, x, y, z] (2 : Int) (([w, x, y, z] : B).length : Int) = [y, z] := rfl
        have k1 : ∀ {R : Type} (K : Option R), gd (decide (0 ≤ (0 : Int)) && (decide ((0 : Int) ≤ (2 : Int)) && decide ((2 : Int) ≤ (([w, x, y, z] : B).length : Int)))) K = K := fun K => gd_t rfl K
        have k2 : ∀ {R : Type} (K : Option R), gd (decide (0 ≤ (2 : Int)) && (decide ((2 : Int) ≤ (([w, x, y, z] : B).length : Int)) && decide ((([w, x, y, z] : B).length : Int) ≤ (([w, x, y, z] : B).length : Int)))) K = K := fun K => gd_t rfl K
        simp only [cond_true, c1, c2, k1, k2, rread2, rdp1 _ _ _ _ _ _ (show ([] : B).length < 1000000 by simp)]
        refine congrArg some (fin 2 (v2 w x) (v2 y z) 0 (b.toNat : Int) [] (by simp) fun e' he => ?_)
        have := rdof e' he
        simp only [rdE, h2, q24, q23, q22, cond_true, cond_false] at this
        exact (Option.some.inj this).symm
    · have n2' := eqi_ne h2
      have n3' := eqi_ne h3
      have n4' := eqi_ne h4
      simp only [n2', cond_false, ref03_Decode_p0, n3', n4', rdp1 _ _ _ _ _ _ (show ([] : B).length < 1000000 by simp)]
      refine congrArg some (fin (a.toNat : Int) 0 0 0 (b.toNat : Int) [] (by simp) fun e' he => ?_)
      have := rdof e' he
      unfold rdE at this
      rw [n4', n3', n2'] at this
      simp only [cond_false] at this
      cases e1 : eqi (a.toNat : Int) 1
      · rw [e1] at this; cases this
      · rw [e1, cond_true] at this
        split at this
        · rw [eqi_iff.1 e1]; exact (Option.some.inj this).symm
        · cases this
end Ds

/- The plain laws of EntryMatchesReference, EntryValues, EntryDecodes, EntryCharges, EntryLimits and EntryKinds. -/
namespace Ds
open Go Go.Dv
set_option maxRecDepth 100000
set_option linter.unusedVariables false

theorem u16_wf {n : Int} (h : (Lit.int .u16 n).wf = true) : 0 ≤ n ∧ n < 65536 := by
  simp [Lit.wf, IntKind.min, IntKind.max, IntKind.signed, IntKind.bits] at h
  omega
theorem i32_wf {n : Int} (h : (Lit.int .i32 n).wf = true) : -2147483648 ≤ n ∧ n < 2147483648 := by
  simp [Lit.wf, IntKind.min, IntKind.max, IntKind.signed, IntKind.bits] at h
  omega

/-! ## made entries -/
theorem made_l0 (b1 b2 b3 b4 b6 b7 b8 b9 b10 : Int) (b11 : B) (b12 b13 b14 b15 b16 : Int) : ∀ (post pre acc : B) (n : Nat), 49 < n + pre.length → pre.length ≤ 49 → acc.length = 1 + pre.length → acc.all okt = true →
    ∃ t, ref03_Made_l0 NN n (pre.length : Int) b1 b2 b3 b4 (pre ++ post) b6 b7 b8 b9 b10 b11 b12 b13 b14 b15 b16 acc = some (((), ()), ((b6, (b7, (b8, (b9, (b10, b11))))), ((b12, (b13, (b14, (b15, (b16, t))))), ()))) ∧ t.length ≤ 50 ∧ t ≠ [] ∧ t.all okt = true
  | _, _, _, 0, h, h', _, _ => by omega
  | [], pre, acc, n + 1, _, hp, hl, ha => by
    rw [ref03_Made_l0_succ]
    simp only [ref03_Made_l0_step, lt_end, cond_false]
    exact ⟨acc, rfl, by omega, by intro e; rw [e] at hl; simp at hl; omega, ha⟩
  | b :: post, pre, acc, n + 1, hn, hp, hl, ha => by
    rw [ref03_Made_l0_succ]
    simp only [ref03_Made_l0_step, lt_mid, cond_true, bt_mid]
    by_cases h9 : pre.length < 49
    · have d : decide ((pre.length : Int) < 49) = true := by simp; omega
      have ub := b.toNat_lt
      have m0 := Int.tmod_nonneg 95 (show (0 : Int) ≤ (b.toNat : Int) by omega)
      have m1 : Int.tmod (b.toNat : Int) 95 < 95 := Int.tmod_lt_of_pos _ (by omega)
      have w : IntKind.wrap .u8 (32 + Int.tmod (b.toNat : Int) 95) = 32 + Int.tmod (b.toNat : Int) 95 := by rw [IntKind.wrap_u8]; omega
      generalize Int.tmod (b.toNat : Int) 95 = x at *
      have hb : bytesU [32 + x] = [UInt8.ofNat (32 + x).toNat] := rfl
      have ho : okt (UInt8.ofNat (32 + x).toNat) = true := by
        unfold okt
        have : (UInt8.ofNat (32 + x).toNat).toNat = (32 + x).toNat := by rw [UInt8.toNat_ofNat']; omega
        rw [this]; simp; omega
      simp only [d, cond_true, w, hb]
      rw [gd_t in_mid, gd_p (by simp only [maxS, List.length_singleton]; omega), wr_mid (q := b) (by omega), app_mid (pre := pre) (q := b) (post := post)]
      exact made_l0 b1 b2 b3 b4 b6 b7 b8 b9 b10 b11 b12 b13 b14 b15 b16 post (pre ++ [b]) (acc ++ [UInt8.ofNat (32 + x).toNat]) n (by simp; omega) (by simp; omega) (by simp; omega) (by simp [List.all_append, ha, ho])
    · have d : decide ((pre.length : Int) < 49) = false := by simp; omega
      simp only [d, cond_false]
      exact ⟨acc, rfl, by omega, by intro e; rw [e] at hl; simp at hl; omega, ha⟩

theorem okE_file {s l o : Int} (h0 : 0 ≤ s) (h1 : s ≤ 60000) (h2 : 0 ≤ l) (h3 : l ≤ 1000) (h4 : 0 ≤ o) (h5 : o ≤ 255) : okE 2 s l 0 o [] = true := by
  unfold okE inR
  simp [q21, q22, h0, h1, h2, h3, h4, h5]
theorem made_ok (x : V_ref03_Raw) (hx : okT T_ref03_Raw x) : ∃ k s l i o t, ref03_Made NN x = some (k, s, l, i, o, t) ∧ okE k s l i o t = true := by
  obtain ⟨a, b, c, d, s⟩ := x
  have ha : 0 ≤ a ∧ a < 256 := u8_of_wf hx.1
  have hb : 0 ≤ b ∧ b < 256 := u8_of_wf hx.2.1
  have hc : 0 ≤ c ∧ c < 65536 := u16_wf hx.2.2.1
  have hd : 0 ≤ d ∧ d < 65536 := u16_wf hx.2.2.2.1
  have t4 : Int.tmod a 4 = a % 4 := Int.tmod_eq_emod_of_nonneg ha.1
  have w1 : IntKind.wrap .i64 (a % 4) = a % 4 := w64 (by omega) (by omega)
  have w2 : IntKind.wrap .i64 (1 + a % 4) = 1 + a % 4 := w64 (by omega) (by omega)
  have w3 : IntKind.wrap .i64 b = b := w64 (by omega) (by omega)
  have w4 : IntKind.wrap .i64 c = c := w64 (by omega) (by omega)
  have w5 : IntKind.wrap .i64 d = d := w64 (by omega) (by omega)
  have ci : Int.tmod c 60001 = c % 60001 := Int.tmod_eq_emod_of_nonneg hc.1
  have di : Int.tmod d 1001 = d % 1001 := Int.tmod_eq_emod_of_nonneg hd.1
  have dj : Int.tmod d 32768 = d % 32768 := Int.tmod_eq_emod_of_nonneg hd.1
  have w6 : IntKind.wrap .i64 (d % 32768) = d % 32768 := w64 (by omega) (by omega)
  have p15 : (2 : Int) ^ min (Int.toNat (15 : Int)) (IntKind.bits .i64) = 32768 := by decide
  have w7 : IntKind.wrap .i64 (c * 32768) = c * 32768 := w64 (by omega) (by omega)
  have w8 : IntKind.wrap .i64 (c * 32768 + d % 32768) = c * 32768 + d % 32768 := w64 (by omega) (by omega)
  simp only [ref03_Made, t4, w1, w2, w3, w4, w5, ci, di, dj, w6, p15, w7, w8]
  by_cases h2 : 1 + a % 4 = 2
  · rw [h2, q22]
    simp only [cond_true]
    exact ⟨2, c % 60001, d % 1001, 0, b, [], rfl, okE_file (by omega) (by omega) (by omega) (by omega) (by omega) (by omega)⟩
  rw [eqi_ne h2]
  by_cases h3 : 1 + a % 4 = 3
  · rw [h3, q33]
    simp only [cond_true, cond_false]
    obtain ⟨t, e1, e2, e3, e4⟩ := made_l0 a b c d 0 0 0 0 0 [] 3 0 0 0 b s [] [46] NN (by simp [NN]) (by simp) rfl (by decide)
    have e1 : ref03_Made_l0 NN NN 0 a b c d s 0 0 0 0 0 [] 3 0 0 0 b [46] = _ := e1
    rw [e1]
    refine ⟨3, 0, 0, 0, b, t, rfl, ?_⟩
    have : eqs t [] = false := eqs_ne e3
    unfold okE inR textB
    simp only [q31, q32, q33, eqi_self, this, e4, cond_true, cond_false, Bool.not_false, Bool.true_and, Bool.and_true]
    simp
    omega
  rw [eqi_ne h3]
  by_cases h4 : 1 + a % 4 = 4
  · rw [h4, q44]
    simp only [cond_true, cond_false]
    rw [gd_t (by decide)]
    refine ⟨4, 0, 0, c * 32768 + d % 32768, b, [], rfl, ?_⟩
    unfold okE inR
    simp [q41, q42, q43, q44]
    omega
  rw [eqi_ne h4]
  have h1 : 1 + a % 4 = 1 := by omega
  rw [h1]
  refine ⟨1, 0, 0, 0, b, [], rfl, ?_⟩
  unfold okE inR
  simp [q11]
  omega

theorem okP_of {k s l i o : Int} {t : B} (h : okE k s l i o t = true) : okP (k, s, l, i, o, t) = true := h
theorem eqE_iff {k s l i o k' s' l' i' o' : Int} {t t' : B} : (eqi k k' && (eqi s s' && (eqi l l' && (eqi i i' && (eqi o o' && (eqs t t' && true)))))) = true ↔ ((k, s, l, i, o, t) : En) = (k', s', l', i', o', t') := by
  simp only [Bool.and_eq_true, eqi_iff, eqs_iff, and_true]
  constructor
  · rintro ⟨rfl, rfl, rfl, rfl, rfl, rfl⟩; rfl
  · intro h; cases h; exact ⟨rfl, rfl, rfl, rfl, rfl, rfl⟩

/-! ## EntryDecodes -/
theorem plainDecodes (n : Int) (r : List UInt8) (hn : okSh (.int .u8) n) (hr : okSh .str r) : law03_EntryDecodes NN n r = some true := by
  have l1 : (bytesU [Int.tmod n 6]).length = 1 := rfl
  simp only [law03_EntryDecodes, sanity3]
  cases d : decide ((60 : Int) < (r.length : Int))
  case true => rfl
  have d := of_decide_eq_false d
  simp only [cond_false]
  rw [gd_p (by simp only [maxS, l1]; omega)]
  generalize hv : bytesU [Int.tmod n 6] ++ r = v
  have hl : v.length < 1000000 := by rw [← hv, List.length_append, l1]; omega
  rw [Dec_eq hl]
  rcases dec_cases v with ⟨⟨k, s, l, i, o, t⟩, h1, h2, h3⟩ | h1
  · have z : eqi (0 : Int) 0 = true := rfl
    have h2 : okE k s l i o t = true := h2
    have h3 : valB k s l i o t = v := h3
    simp only [h1, z, Bool.not_true, cond_false, Enc_eq, Val_eq, encS, h2, cond_true, h3, eqs_self]
  · rw [h1]; rfl

/-! ## EntryValues -/
theorem val_kind {k s l i o : Int} {t : B} (h : okE k s l i o t = true) : IntKind.wrap .i64 (bt (valB k s l i o t) 0) = k := by
  have H := okE_of h
  have := u8_toNat k
  have k1 := H.k1; have k4 := H.k4
  show IntKind.wrap .i64 (((u8 k).toNat : Nat) : Int) = k
  rw [w64 (by omega) (by omega)]; omega
theorem cut_last {v : B} (h : 1 ≤ v.length) (hl : v.length < 1000000) : IntKind.wrap .i64 ((v.length : Int) - 1) = (v.length : Int) - 1 ∧ cut2 v 0 ((v.length : Int) - 1) = v.take (v.length - 1) := by
  refine ⟨w64 (by omega) (by omega), ?_⟩
  unfold cut2
  have : ((v.length : Int) - 1).toNat - (0 : Int).toNat = v.length - 1 := by simp
  rw [this]; rfl
theorem rest_kind {k s l i s' l' i' o o' : Int} {t t' : B} (h : okE k s l i o t = true) (h' : okE k s' l' i' o' t' = true) (h3 : k ≠ 3) : (valB k s l i o t).length = (valB k s' l' i' o' t').length := by
  have H := okE_of h
  have k1 := H.k1; have k4 := H.k4
  have e3 := eqi_ne h3
  unfold valB restE
  rw [e3]
  cases eqi k 2
  · cases eqi k 4
    · rfl
    · rfl
  · rfl
theorem val_eq_k {k s l i o k' s' l' i' o' : Int} {t t' x y : B} (h : okE k s l i o t = true) (h' : okE k' s' l' i' o' t' = true) (e : valB k s l i o t ++ x = valB k' s' l' i' o' t' ++ y) : k = k' ∧ o = o' := by
  have H := okE_of h; have H' := okE_of h'
  unfold valB at e
  simp only [List.cons_append, List.nil_append, List.cons.injEq] at e
  have e1 : ((u8 k).toNat : Int) = ((u8 k').toNat : Int) := by rw [e.1]
  have e2 : ((u8 o).toNat : Int) = ((u8 o').toNat : Int) := by rw [e.2.1]
  rw [u8_toNat, u8_toNat] at e1 e2
  have := H.k1; have := H.k4; have := H'.k1; have := H'.k4
  have := H.o0; have := H.o1; have := H'.o0; have := H'.o1
  omega
theorem val3 {s l i o : Int} {t : B} : valB 3 s l i o t = [u8 3, u8 o] ++ t := rfl

theorem values_p2 {k s l i o : Int} {t : B} (h : okE k s l i o t = true) : law03_EntryValues_p2 NN true (valB k s l i o t) k s l i o t = some (true, ()) := by
  have H := okE_of h
  obtain ⟨v1, v2⟩ := val_len H
  obtain ⟨c1, c2⟩ := cut_last (v := valB k s l i o t) (by omega) (by omega)
  have hl : ((valB k s l i o t).take ((valB k s l i o t).length - 1)).length = (valB k s l i o t).length - 1 := by simp
  simp only [law03_EntryValues_p2, c1, c2, Dec_eq (show ((valB k s l i o t).take ((valB k s l i o t).length - 1)).length < 1000000 by omega)]
  rw [gd_t (by simp; omega)]
  rcases dec_cases ((valB k s l i o t).take ((valB k s l i o t).length - 1)) with ⟨⟨k', s', l', i', o', t'⟩, h1, h2, h3⟩ | h1
  · have h2 : okE k' s' l' i' o' t' = true := h2
    have h3 : valB k' s' l' i' o' t' = (valB k s l i o t).take ((valB k s l i o t).length - 1) := h3
    have e : valB k' s' l' i' o' t' ++ (valB k s l i o t).drop ((valB k s l i o t).length - 1) = valB k s l i o t ++ [] := by
      rw [h3, List.take_append_drop, List.append_nil]
    obtain ⟨rfl, rfl⟩ := val_eq_k h2 h e
    have z : eqi (0 : Int) 30 = false := rfl
    simp only [h1, cond_true, z, cond_false]
    by_cases h3k : k' = 3
    · subst h3k
      have lt := congrArg List.length h3
      rw [hl, val3, val3] at lt
      have ht' := (okE_of h2).kt3 rfl
      have : 1 ≤ t'.length := by
        cases t' with
        | nil => exact absurd rfl ht'.1
        | cons _ _ => simp
      simp only [List.length_append, List.length_cons, List.length_nil] at lt
      have d : decide ((1 : Int) < (t.length : Int)) = true := by simp; omega
      simp only [q33, cond_true, d]
    · exfalso
      have := rest_kind h2 h h3k
      have lt := congrArg List.length h3
      rw [hl] at lt; omega
  · rw [h1]; rfl

theorem values_p0 {k s l i o : Int} {t : B} {c : Int} (h : okE k s l i o t = true) : law03_EntryValues_p0 NN c true (valB k s l i o t) k s l i o t = some (true, ()) := by
  have H := okE_of h
  have ht := H.t1
  obtain ⟨v1, v2⟩ := val_len H
  have l1 : (bytesU [c]).length = 1 := rfl
  simp only [law03_EntryValues_p0, values_p2 h, Dec_eq (show (valB k s l i o t ++ bytesU [c]).length < 1000000 by simp only [List.length_append, l1]; omega)]
  rw [gd_p (by simp only [maxS, l1]; omega)]
  rcases dec_cases (valB k s l i o t ++ bytesU [c]) with ⟨⟨k', s', l', i', o', t'⟩, h1, h2, h3⟩ | h1
  · have h2 : okE k' s' l' i' o' t' = true := h2
    have h3 : valB k' s' l' i' o' t' = valB k s l i o t ++ bytesU [c] := h3
    have e : valB k' s' l' i' o' t' ++ [] = valB k s l i o t ++ bytesU [c] := by rw [List.append_nil]; exact h3
    obtain ⟨rfl, rfl⟩ := val_eq_k h2 h e
    have z : eqi (0 : Int) 0 = true := rfl
    simp only [h1, z, cond_true]
    by_cases h3k : k' = 3
    · subst h3k
      rw [val3, val3, List.append_assoc] at h3
      have h3 := List.append_cancel_left h3
      simp only [q33, Bool.not_true, cond_false, h3, eqs_self]
      rw [gd_p (by simp only [maxS, l1]; omega)]
    · exfalso
      have := rest_kind h2 h h3k
      have lt := congrArg List.length h3
      rw [List.length_append, l1] at lt; omega
  · have z : eqi (30 : Int) 0 = false := rfl
    simp only [h1, z, cond_false]

theorem plainValues (x y : V_ref03_Raw) (c : Int) (hx : okSh (.val T_ref03_Raw) x) (hy : okSh (.val T_ref03_Raw) y) (hc : okSh (.int .u8) c) : law03_EntryValues NN x y c = some true := by
  obtain ⟨k, s, l, i, o, t, m1, ok1⟩ := made_ok x hx
  obtain ⟨k', s', l', i', o', t', m2, ok2⟩ := made_ok y hy
  have H := okE_of ok1
  obtain ⟨v1, v2⟩ := val_len H
  have z : eqi (0 : Int) 0 = true := rfl
  have dv : decS (valB k s l i o t) = ((k, s, l, i, o, t), 0) := dec_val (e := (k, s, l, i, o, t)) ok1
  have d1 : decide (((valB k s l i o t).length : Int) < 2) = false := by simp; omega
  have d2 : decide ((52 : Int) < ((valB k s l i o t).length : Int)) = false := by simp; omega
  have eb : (!(eqb (eqs (valB k s l i o t) (valB k' s' l' i' o' t')) (eqi k k' && (eqi s s' && (eqi l l' && (eqi i i' && (eqi o o' && (eqs t t' && true)))))))) = false := by
    have : eqs (valB k s l i o t) (valB k' s' l' i' o' t') = (eqi k k' && (eqi s s' && (eqi l l' && (eqi i i' && (eqi o o' && (eqs t t' && true)))))) := by
      rw [Bool.eq_iff_iff, eqE_iff, eqs_iff]
      exact ⟨fun h => val_inj (e := (k, s, l, i, o, t)) (f := (k', s', l', i', o', t')) ok1 ok2 h, fun h => by cases h; rfl⟩
    rw [this]; cases (eqi k k' && (eqi s s' && (eqi l l' && (eqi i i' && (eqi o o' && (eqs t t' && true)))))) <;> rfl
  have p1 : law03_EntryValues_p1 NN c true (valB k s l i o t) false k s l i o t = some (.inr ((c, (true, ((), valB k s l i o t))), ((k, (s, (l, (i, (o, t))))), ()))) := rfl
  simp only [law03_EntryValues, sanity3, m1, m2, Enc_eq, encS, ok1, ok2, cond_true, Dec_eq (show (valB k s l i o t).length < 1000000 by omega), dv, z, Bool.not_true, cond_false, eqi_self, eqs_self, Bool.and_self, eb, d1, d2, val_kind ok1, p1, values_p0 ok1]
  rw [gd_t (by simp [inB]; omega)]

/-! ## EntryLimits -/
theorem limits_p0 {b0 b3 : Int} {k s l i o : Int} {t : B} (h : okE k s l i o t = (decide ((0 : Int) ≤ IntKind.wrap .i64 b0) && decide (IntKind.wrap .i64 b0 ≤ b3))) : law03_EntryLimits_p0 NN b0 true 0 b3 k s l i o t = some (true, ()) := by
  simp only [law03_EntryLimits_p0, Enc_eq, encS, Val_eq, h]
  have z0 : eqi (0 : Int) 0 = true := rfl
  have z1 : eqi (30 : Int) 0 = false := rfl
  have z2 : eqi (30 : Int) 30 = true := rfl
  cases decide ((0 : Int) ≤ IntKind.wrap .i64 b0) <;> cases decide (IntKind.wrap .i64 b0 ≤ b3) <;> simp only [cond_true, cond_false, Bool.and_self, Bool.and_true, Bool.and_false, Bool.true_and, Bool.false_and, z0, z1, z2] <;> rfl
theorem plainLimitsE (x : V_ref03_Raw) (n w : Int) (hx : okSh (.val T_ref03_Raw) x) (hn : okSh (.int .i32) n) (hw : okSh (.int .u8) w) : law03_EntryLimits NN x n w = some true := by
  obtain ⟨k, s, l, i, o, t, m1, ok1⟩ := made_ok x hx
  have H := okE_of ok1
  have h1 : okE k s l i (IntKind.wrap .i64 n) t = (decide ((0 : Int) ≤ IntKind.wrap .i64 n) && decide (IntKind.wrap .i64 n ≤ 255)) := by
    unfold okE at ok1 ⊢
    rw [Bool.and_eq_true] at ok1
    rw [ok1.2, Bool.and_true]; rfl
  have h2 : okE 2 (IntKind.wrap .i64 n) 1 0 0 [] = (decide ((0 : Int) ≤ IntKind.wrap .i64 n) && decide (IntKind.wrap .i64 n ≤ 60000)) := by
    have : okE 2 (IntKind.wrap .i64 n) 1 0 0 [] = (true && (inR (IntKind.wrap .i64 n) 0 60000 && (true && (true && true)))) := rfl
    rw [this]; simp only [Bool.true_and, Bool.and_true, inR]
  have h3 : okE 2 0 (IntKind.wrap .i64 n) 0 3 [] = (decide ((0 : Int) ≤ IntKind.wrap .i64 n) && decide (IntKind.wrap .i64 n ≤ 1000)) := by
    have : okE 2 0 (IntKind.wrap .i64 n) 0 3 [] = (true && (true && (inR (IntKind.wrap .i64 n) 0 1000 && (true && true)))) := rfl
    rw [this]; simp only [Bool.true_and, Bool.and_true, inR]
  have h4 : okE 4 0 0 (IntKind.wrap .i64 n) 0 [] = (decide ((0 : Int) ≤ IntKind.wrap .i64 n) && decide (IntKind.wrap .i64 n ≤ 2147483647)) := by
    have : okE 4 0 0 (IntKind.wrap .i64 n) 0 [] = (true && (true && (true && (inR (IntKind.wrap .i64 n) 0 2147483647 && true)))) := rfl
    rw [this]; simp only [Bool.true_and, Bool.and_true, inR]
  simp only [law03_EntryLimits, sanity3, m1, limits_p0 h1, limits_p0 h2, limits_p0 h3, limits_p0 h4]
  cases eqi (Int.tmod w 4) 0 <;> cases eqi (Int.tmod w 4) 1 <;> cases eqi (Int.tmod w 4) 2 <;> rfl

/-! ## EntryKinds -/
theorem kinds_p0 {k s l i o : Int} {t : B} (h : okE k s l i o t = false) : law03_EntryKinds_p0 NN true true k s l i o t = some (true, ()) := by
  simp only [law03_EntryKinds_p0, Enc_eq, encS, Val_eq, h]
  rfl
theorem kinds_l1 : ∀ (j : Nat) (b0 : Int) (i n : Nat) (acc : B), IntKind.wrap .i64 (Int.tmod b0 60) = ((i + j : Nat) : Int) → j < n → i + j < 60 → acc = List.replicate i 120 →
    law03_EntryKinds_l1 NN n b0 true true (i : Int) 3 0 0 0 0 acc = some ((b0, (true, (true, ()))), ((3, (0, (0, (0, (0, List.replicate (i + j) 120))))), ()))
  | _, _, _, 0, _, _, h, _, _ => absurd h (Nat.not_lt_zero _)
  | 0, b0, i, n + 1, acc, hb, _, _, ha => by
    have d : decide ((i : Int) < ((i + 0 : Nat) : Int)) = false := by simp
    rw [law03_EntryKinds_l1_succ]
    simp only [law03_EntryKinds_l1_step, hb, d, cond_false, ha]
    rfl
  | j + 1, b0, i, n + 1, acc, hb, hn, h60, ha => by
    have d : decide ((i : Int) < ((i + (j + 1) : Nat) : Int)) = true := by simp; omega
    have w : IntKind.wrap .i64 ((i : Int) + 1) = ((i + 1 : Nat) : Int) := by rw [w64 (by omega) (by omega)]; omega
    have e : i + (j + 1) = i + 1 + j := by omega
    rw [law03_EntryKinds_l1_succ]
    simp only [law03_EntryKinds_l1_step, hb, d, cond_true, w]
    rw [gd_p (by rw [ha]; simp only [maxS, List.length_replicate, List.length_singleton]; omega)]
    rw [kinds_l1 j b0 (i + 1) n (acc ++ [120]) (by rw [hb, e]) (by omega) (by omega) (by rw [ha]; exact List.replicate_succ'.symm)]
    rw [e]
theorem plainKinds (x : V_ref03_Raw) (w c : Int) (hx : okSh (.val T_ref03_Raw) x) (hw : okSh (.int .u8) w) (hc : okSh (.int .u8) c) : law03_EntryKinds NN x w c = some true := by
  have hc : 0 ≤ c ∧ c < 256 := u8_of_wf hc
  obtain ⟨k, s, l, i, o, t, m1, ok1⟩ := made_ok x hx
  have H := okE_of ok1
  have k1 := H.k1; have k4 := H.k4
  have w0 : IntKind.wrap .i64 c = c := w64 (by omega) (by omega)
  have w1 : IntKind.wrap .i64 (5 + c) = 5 + c := w64 (by omega) (by omega)
  have w2 : IntKind.wrap .i64 (0 - c) = 0 - c := w64 (by omega) (by omega)
  have w3 : IntKind.wrap .i64 (1 + c) = 1 + c := w64 (by omega) (by omega)
  have bad : ∀ {k s l i o : Int} {t : B}, ¬ OkE k s l i o t → okE k s l i o t = false := fun {k s l i o t} h => by
    cases e : okE k s l i o t
    · rfl
    · exact absurd (okE_of e) h
  have e0 : okE (5 + c) s l i o t = false := bad fun h => by have := h.k4; omega
  have e1 : okE (0 - c) s l i o t = false := bad fun h => by have := h.k1; omega
  simp only [law03_EntryKinds, sanity3, m1, Val_eq, ok1, w0, w1, w2, w3]
  cases eqi (Int.tmod w 6) 0
  case true => simp only [cond_true, kinds_p0 e0]
  cases eqi (Int.tmod w 6) 1
  case true => simp only [cond_true, cond_false, kinds_p0 e1]
  cases eqi (Int.tmod w 6) 2
  case true =>
    simp only [cond_true, cond_false]
    cases e4 : eqi k 4
    · have hk : k ≠ 4 := fun h => by rw [h] at e4; cases e4
      have : okE k s l (1 + c) o t = false := bad fun h => by have := h.ki hk; omega
      simp only [cond_false, kinds_p0 this]
    · have hk := eqi_iff.1 e4
      have : okE k (1 + c) l i o t = false := bad fun h => by have := (h.ks (by omega)).1; omega
      simp only [cond_true, kinds_p0 this]
  cases eqi (Int.tmod w 6) 3
  case true =>
    simp only [cond_true, cond_false]
    cases e2 : eqi k 2
    · have hk : k ≠ 2 := fun h => by rw [h] at e2; cases e2
      have : okE k s (1 + c) i o t = false := bad fun h => by have := (h.ks hk).2; omega
      simp only [Bool.not_false, cond_true, kinds_p0 this]
    · have hk := eqi_iff.1 e2
      have : okE k s l i o (bytesU [c]) = false := bad fun h => by
        have := h.kt (by omega)
        cases this
      simp only [Bool.not_true, cond_false, kinds_p0 this]
  cases eqi (Int.tmod w 6) 4
  case true =>
    simp only [cond_true, cond_false]
    have l1 : (bytesU [c]).length = 1 := rfl
    have hb : bytesU [c] = [UInt8.ofNat c.toNat] := rfl
    rw [gd_p (by simp only [maxS, l1, List.length_singleton]; omega), gd_p (by simp only [maxS, List.length_append, l1, List.length_singleton]; omega), Enc_eq]
    have hu : (UInt8.ofNat c.toNat).toNat = c.toNat := by rw [UInt8.toNat_ofNat']; omega
    have ho : okE 3 0 0 0 o ([97] ++ bytesU [c] ++ [98]) = (decide (32 ≤ c) && decide (c ≤ 126)) := by
      have o0 := H.o0; have o1 := H.o1
      have ir : inR o 0 255 = true := by simp [inR]; omega
      have h97 : okt 97 = true := by decide
      have h98 : okt 98 = true := by decide
      have e1 : eqs ([97] ++ bytesU [c] ++ [98]) [] = false := rfl
      have e2 : decide ((([97] ++ bytesU [c] ++ [98] : B).length : Int) ≤ 50) = true := rfl
      have e3 : ([97] ++ bytesU [c] ++ [98] : B).all okt = okt (UInt8.ofNat c.toNat) := by
        rw [hb]
        simp [h97, h98]
      unfold okE textB
      rw [ir, e1, e2, e3]
      simp only [q31, q32, q33, cond_true, cond_false, eqi_self, Bool.true_and, Bool.not_false]
      unfold okt
      rw [hu]
      congr 1 <;> rw [decide_eq_decide] <;> omega
    simp only [encS, ho]
    have z0 : eqi (0 : Int) 0 = true := rfl
    have z1 : eqi (30 : Int) 0 = false := rfl
    cases decide (32 ≤ c) <;> cases decide (c ≤ 126) <;> simp only [cond_true, cond_false, Bool.and_self, Bool.and_true, Bool.and_false, Bool.true_and, Bool.false_and, z0, z1] <;> rfl
  · simp only [cond_false]
    have m0 := Int.tmod_nonneg 60 hc.1
    have m1 : Int.tmod c 60 < 60 := Int.tmod_lt_of_pos _ (by omega)
    have hj : IntKind.wrap .i64 (Int.tmod c 60) = ((0 + (Int.tmod c 60).toNat : Nat) : Int) := by rw [w64 (by omega) (by omega)]; omega
    have L := kinds_l1 (Int.tmod c 60).toNat c 0 NN [] hj (by simp only [NN]; omega) (by omega) rfl
    have L : law03_EntryKinds_l1 NN NN c true true 0 3 0 0 0 0 [] = some ((c, (true, (true, ()))), ((3, (0, (0, (0, (0, List.replicate (0 + (Int.tmod c 60).toNat) 120))))), ())) := L
    rw [L]
    simp only [cond_true, Val_eq]
    have ho : okE 3 0 0 0 0 (List.replicate (0 + (Int.tmod c 60).toNat) 120) = (decide (1 ≤ Int.tmod c 60) && decide (Int.tmod c 60 ≤ 50)) := by
      generalize Int.tmod c 60 = x at *
      have ha : (List.replicate (0 + x.toNat) (120 : UInt8)).all okt = true := by
        rw [List.all_replicate]
        split
        · rfl
        · decide
      unfold okE textB
      rw [ha]
      have e2 : decide (((List.replicate (0 + x.toNat) (120 : UInt8)).length : Int) ≤ 50) = decide (x ≤ 50) := by
        rw [decide_eq_decide]; simp; omega
      have e1 : (!(eqs (List.replicate (0 + x.toNat) (120 : UInt8)) [])) = decide (1 ≤ x) := by
        by_cases h : x = 0
        · subst h; rfl
        · have : List.replicate (0 + x.toNat) (120 : UInt8) ≠ [] := by
            intro e
            have := congrArg List.length e
            simp at this; omega
          rw [eqs_ne this]
          symm
          simp; omega
      rw [e1, e2]
      simp only [q31, q32, q33, cond_true, cond_false, eqi_self, Bool.true_and, Bool.and_true]
      rfl
    rw [ho]
    cases decide (1 ≤ Int.tmod c 60) <;> cases decide (Int.tmod c 60 ≤ 50) <;> rfl

/-! ## charges -/
abbrev Pr : Type := V_api_Pair
def chg (t : Int) (n : Int) : Int × Int := bif eqi t 1 then (1, 0) else bif eqi t 4 then (0, 0) else (0, n)
theorem charge_key {k p m : B} {t n : Int} (h : KeyIs k p t n m) (hl : k.length < 5000) (v : B) (st : Int) : entry_Charge NN (k, v, st) = some (chg t (v.length : Int)) := by
  have z : eqi (0 : Int) 0 = true := rfl
  simp only [entry_Charge, Place_yes h hl, z, Bool.not_true, cond_false, chg]
  cases eqi t 1 <;> cases eqi t 4 <;> rfl
theorem charge_agree (k v : B) (st : Int) (hl : k.length < 5000) : ∃ a b, entry_Charge NN (k, v, st) = some (a, b) ∧ ref03_Charge NN (k, v, st) = some (a, b) := by
  by_cases h : ∃ p t n m, KeyIs k p t n m
  · obtain ⟨p, t, n, m, h⟩ := h
    refine ⟨(chg t (v.length : Int)).1, (chg t (v.length : Int)).2, charge_key h hl v st, ?_⟩
    have z : eqi (0 : Int) 0 = true := rfl
    simp only [ref03_Charge, rPlace_yes h hl, z, Bool.not_true, cond_false]
    cases h <;> rfl
  · have h : ∀ p t n m, ¬ KeyIs k p t n m := fun p t n m hk => h ⟨p, t, n, m, hk⟩
    refine ⟨0, 0, ?_, ?_⟩
    · simp only [entry_Charge, Place_no h hl]; rfl
    · simp only [ref03_Charge, rPlace_no h hl]; rfl

theorem total_agree (l : Int) (z1 z2 : Int) : ∀ (post pre : List Pr) (n : Nat) (a b : Int), l = ((pre ++ post).length : Int) → post.length < n → pre.length + post.length < 1000000 → (∀ q ∈ post, q.1.length < 5000) →
    ∃ x y, entry_Total_l0 NN n (pre ++ post) l (pre.length : Int) z1 z2 a b = some (((), ()), ((z1, z2), ((x, y), ()))) ∧ ref03_Total_l0 NN n (pre ++ post) (pre.length : Int) z1 z2 a b = some (((), ()), ((z1, z2), ((x, y), ())))
  | _, _, 0, _, _, _, h, _, _ => absurd h (Nat.not_lt_zero _)
  | [], pre, n + 1, a, b, hl, _, _, _ => by
    subst hl
    refine ⟨a, b, ?_, ?_⟩
    · rw [entry_Total_l0_succ]
      simp only [entry_Total_l0_step, lt_end, cond_false]
    · rw [ref03_Total_l0_succ]
      simp only [ref03_Total_l0_step, lt_end, cond_false]
  | q :: post, pre, n + 1, a, b, hl, hn, hb, hq => by
    subst hl
    obtain ⟨k, v, st⟩ := q
    simp only [List.length_cons] at hn hb
    obtain ⟨x, y, c1, c2⟩ := charge_agree k v st (hq (k, v, st) (by simp))
    obtain ⟨x', y', t1, t2⟩ := total_agree _ z1 z2 post (pre ++ [(k, v, st)]) n (IntKind.wrap .i64 (a + x)) (IntKind.wrap .i64 (b + y)) rfl (by omega) (by simp; omega) (fun q h => hq q (by simp [h]))
    refine ⟨x', y', ?_, ?_⟩
    · rw [entry_Total_l0_succ]
      simp only [entry_Total_l0_step, lt_mid, cond_true, rd_mid, c1]
      rw [gd_t in_mid, wr_mid (q := (k, v, st)) (by omega), app_mid (pre := pre) (q := (k, v, st)) (post := post)]
      exact t1
    · rw [ref03_Total_l0_succ]
      simp only [ref03_Total_l0_step, lt_mid, cond_true, rd_mid, c2]
      rw [gd_t in_mid, wr_mid (q := (k, v, st)) (by omega), app_mid (pre := pre) (q := (k, v, st)) (post := post)]
      exact t2
theorem Total_agree {t : List Pr} (h : t.length < 1000) (hq : ∀ q ∈ t, q.1.length < 5000) : ∃ x y, entry_Total NN t = some (x, y) ∧ ref03_Total NN t = some (x, y) := by
  obtain ⟨x, y, h1, h2⟩ := total_agree (t.length : Int) 0 0 t [] NN 0 0 rfl (by simp only [NN]; omega) (by simp; omega) hq
  have h1 : entry_Total_l0 NN NN t (t.length : Int) 0 0 0 0 0 = _ := h1
  have h2 : ref03_Total_l0 NN NN t 0 0 0 0 0 = _ := h2
  refine ⟨x, y, ?_, ?_⟩
  · simp only [entry_Total, h1]
  · simp only [ref03_Total, h2]

/-! ## EntryMatchesReference -/
theorem matches_l1 (v : B) (k s l i o : Int) (t : B) : ∀ (post pre : List Pr) (n : Nat), post.length < n → pre.length + post.length < 1000000 → (∀ q ∈ pre, q.1.length < 5000) →
    law03_EntryMatchesReference_l1 NN n v (pre ++ post) true (pre.length : Int) k s l i o t = some (.inl (true, ())) ∨
    (law03_EntryMatchesReference_l1 NN n v (pre ++ post) true (pre.length : Int) k s l i o t = some (.inr ((v, (pre ++ post, ((), true))), ((k, (s, (l, (i, (o, t))))), ()))) ∧ ∀ q ∈ pre ++ post, q.1.length < 5000)
  | _, _, 0, h, _, _ => absurd h (Nat.not_lt_zero _)
  | [], pre, n + 1, _, _, hp => by
    refine .inr ⟨?_, by simpa using hp⟩
    rw [law03_EntryMatchesReference_l1_succ]
    simp only [law03_EntryMatchesReference_l1_step, lt_end, cond_false]
  | q :: post, pre, n + 1, hn, hb, hp => by
    obtain ⟨key, val, st⟩ := q
    simp only [List.length_cons] at hn hb
    rw [law03_EntryMatchesReference_l1_succ]
    simp only [law03_EntryMatchesReference_l1_step, lt_mid, cond_true, rd_mid]
    rw [gd_t in_mid]
    cases d1 : decide ((100 : Int) < (key.length : Int))
    case true =>
      left
      simp only [cond_true, law03_EntryMatchesReference_p3, rd_mid, d1]
      rw [gd_t in_mid]
    simp only [cond_false]
    rw [gd_t in_mid]
    cases d2 : decide ((100 : Int) < (val.length : Int))
    case true =>
      left
      simp only [cond_true, cond_false, law03_EntryMatchesReference_p3, rd_mid, d1, d2]
      rw [gd_t in_mid, gd_t in_mid]
    have d1 := of_decide_eq_false d1
    obtain ⟨x, y, c1, c2⟩ := charge_agree key val st (by omega)
    simp only [cond_false, c1, c2, eqi_self, Bool.and_self, Bool.not_true, law03_EntryMatchesReference_p3]
    rw [gd_t in_mid, gd_t in_mid, wr_mid (q := (key, val, st)) (by omega), app_mid (pre := pre) (q := (key, val, st)) (post := post)]
    exact matches_l1 v k s l i o t post (pre ++ [(key, val, st)]) n (by omega) (by simp; omega) (fun q hq => by
      rcases List.mem_append.1 hq with h | h
      · exact hp q h
      · rw [List.mem_singleton.1 h]; show key.length < 5000; omega)

theorem plainMatchE (e : V_api_Entry) (v : List UInt8) (t : List V_api_Pair) (he : okSh (.val T_api_Entry) e) (hv : okSh .str v) (ht : okSh (.list T_api_Pair) t) : law03_EntryMatchesReference NN e v t = some true := by
  obtain ⟨k, s, l, i, o, x⟩ := e
  simp only [law03_EntryMatchesReference, sanity3]
  cases d1 : decide ((100 : Int) < (x.length : Int))
  case true => rfl
  cases d2 : decide ((100 : Int) < (v.length : Int))
  case true => rfl
  cases d3 : decide ((20 : Int) < (t.length : Int))
  case true => rfl
  have d1 := of_decide_eq_false d1
  have d2 := of_decide_eq_false d2
  have d3 := of_decide_eq_false d3
  simp only [cond_false, law03_EntryMatchesReference_p0]
  rcases matches_l1 v k s l i o x t [] NN (by simp only [NN]; omega) (by simp; omega) (by simp) with h | ⟨h, hq⟩
  · have h : law03_EntryMatchesReference_l1 NN NN v t true 0 k s l i o x = _ := h
    rw [h]
  · have h : law03_EntryMatchesReference_l1 NN NN v t true 0 k s l i o x = some (.inr ((v, (t, ((), true))), ((k, (s, (l, (i, (o, x))))), ()))) := h
    obtain ⟨a, b, t1, t2⟩ := Total_agree (t := t) (by omega) hq
    rw [h]
    simp only [Enc_eq, rEnc_eq k s l i o (show x.length < 1000000 by omega), Dec_eq (show v.length < 1000000 by omega), rDec_eq (show v.length < 100000 by omega), Val_eq, rVal_eq k s l i o (show x.length < 1000000 by omega), eqs_self, eqi_self, t1, t2, law03_EntryMatchesReference_p2, cond_true, Bool.and_self]
    cases okE k s l i o x <;> rfl

/-! ## EntryCharges -/
def GoodC (v : B) (pl : V_api_Place) (w : Int × Int) : Prop := ∃ k, ref01_Key NN pl = some (k, 0) ∧ ∀ st, entry_Charge NN (k, v, st) = some w
theorem good_key {v p m k : B} {t n : Int} (h : KeyIs k p t n m) (hp : p.length < 1000) (hm : m.length < 1000) (hk : k.length < 5000) : GoodC v (p, t, n, m) (chg t (v.length : Int)) := by
  refine ⟨k, ?_, fun st => charge_key h hk v st⟩
  rw [rKey_any (by omega) (by omega), of_keyIs h]; rfl
theorem charges_l0 (v : B) (st : Int) (b4 : List V_api_Place) (b5 : List V_api_Use) (h4 : b4.length = 7) (h5 : b5.length = 7) (H : ∀ j : Nat, j < 7 → GoodC v (rdL b4 (j : Int) D_api_Place) (rdL b5 (j : Int) D_api_Use)) : ∀ (j i n : Nat), i + j = 7 → j < n → law03_EntryCharges_l0 NN n v st true (i : Int) b4 b5 = some (.inr (true, ()))
  | _, _, 0, _, h => absurd h (Nat.not_lt_zero _)
  | 0, i, n + 1, hi, _ => by
    have d : decide ((i : Int) < (b4.length : Int)) = false := by simp; omega
    rw [law03_EntryCharges_l0_succ]
    simp only [law03_EntryCharges_l0_step, d, cond_false]
  | j + 1, i, n + 1, hi, hn => by
    have d : decide ((i : Int) < (b4.length : Int)) = true := by simp; omega
    have w : IntKind.wrap .i64 ((i : Int) + 1) = ((i + 1 : Nat) : Int) := by rw [w64 (by omega) (by omega)]; omega
    have g4 : ∀ {R : Type} (K : Option R), gd (inB (i : Int) b4.length) K = K := fun K => gd_t (by simp [inB]; omega) K
    have g5 : ∀ {R : Type} (K : Option R), gd (inB (i : Int) b5.length) K = K := fun K => gd_t (by simp [inB]; omega) K
    have z : eqi (0 : Int) 0 = true := rfl
    obtain ⟨k, k1, k2⟩ := H i (by omega)
    rw [law03_EntryCharges_l0_succ]
    simp only [law03_EntryCharges_l0_step, d, cond_true, g4, g5, k1, z, Bool.not_true, cond_false, k2, eqi_self, Bool.and_self, w]
    exact charges_l0 v st b4 b5 h4 h5 H j (i + 1) n (by omega) (by omega)
theorem plainCharges (n : Int) (v : List UInt8) (st : Int) (hn : okSh (.int .u16) n) (hv : okSh .str v) (hs : okSh (.int .i64) st) : law03_EntryCharges NN n v st = some true := by
  have hn : 0 ≤ n ∧ n < 65536 := u16_wf hn
  have w : IntKind.wrap .i64 n = n := w64 (by omega) (by omega)
  have m0 := Int.tmod_nonneg 60001 hn.1
  have m1 : Int.tmod n 60001 < 60001 := Int.tmod_lt_of_pos _ (by omega)
  obtain ⟨x, ex⟩ := Int.eq_ofNat_of_zero_le m0
  have B := rBody_eq (n := n) hn.1 (by omega)
  have hb := bodyQ_body (n := n) hn.1 (by omega)
  have lb := body_len n
  simp only [law03_EntryCharges, sanity3]
  cases d : decide ((64 : Int) < (v.length : Int))
  case true => rfl
  simp only [cond_false, w, B, ex]
  have v1 : validB [97, 47, 98, 47] = true := by decide +kernel
  have v2 : validB [97, 47] = true := by decide +kernel
  have v0 : validB [] = true := by decide +kernel
  have n1 : nameB [120] = true := by decide +kernel
  have H : ∀ j : Nat, j < 7 → GoodC v (rdL [([97, 47, 98, 47], 1, 0, []), ([], 1, 0, []), ([97, 47], 2, (x : Int), []), ([97, 47, 98, 47], 3, 0, [120]), ([97, 47], 4, 0, []), (bodyB n, 1, 0, []), (bodyB n, 2, 3, [])] (j : Int) D_api_Place)
      (rdL [(1, 0), (1, 0), (0, (v.length : Int)), (0, (v.length : Int)), (0, 0), (1, 0), (0, (v.length : Int))] (j : Int) D_api_Use) := by
    intro j hj
    match j, hj with
    | 0, _ => exact good_key (.entry (.inl v1) rfl) (by decide) (by decide) (by decide)
    | 1, _ => exact good_key (.entry (.inl v0) rfl) (by decide) (by decide) (by decide)
    | 2, _ => exact good_key (.block (.inl v2) (by omega) rfl) (by decide) (by decide) (by simp [blk_len])
    | 3, _ => exact good_key (.attr (.inl v1) n1 rfl) (by decide) (by decide) (by decide)
    | 4, _ => exact good_key (.link v2 rfl) (by decide) (by decide) (by decide)
    | 5, _ => exact good_key (.entry (.inr hb) rfl) (by omega) (by decide) (by simp [lb])
    | 6, _ => exact good_key (.block (n := 3) (.inr hb) (by omega) rfl) (by omega) (by decide) (by simp [lb, blk_len])
  have := charges_l0 v st _ _ rfl rfl H 7 0 NN (by omega) (by simp only [NN]; omega)
  have this : law03_EntryCharges_l0 NN NN v st true 0 _ _ = _ := this
  rw [this]
end Ds
