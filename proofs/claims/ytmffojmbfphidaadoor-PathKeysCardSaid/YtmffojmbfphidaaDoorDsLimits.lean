/- The plain law of PathLimits. -/
import Derived.Test.YtmffojmbfphidaaDoorDsJoins
import Derived.Test.YtmffojmbfphidaaDoorDsOrd
import Derived.KernelRfl
set_option linter.all false
namespace Ds
open Go Go.Dv
set_option maxRecDepth 100000
set_option linter.unusedVariables false

theorem UI (s : B) : bytesU (bytesI s) = s := by
  unfold bytesI bytesU
  rw [List.map_map]
  conv => rhs; rw [← List.map_id s]
  refine List.map_congr_left fun x hx => ?_
  simp only [Function.comp, id, Int.toNat_natCast]
  exact UInt8.ofNat_toNat

def digs : B := [48, 49, 50, 51, 52, 53, 54, 55, 56, 57, 97, 98, 99, 100, 101, 102]
def dg (x : Int) : UInt8 := digs.getD x.toNat 0
def hexN : Nat → Int → B
  | 0, _ => []
  | k + 1, n => dg (n / 16 ^ k % 16) :: hexN k n
theorem hexN_len (n : Int) : ∀ k, (hexN k n).length = k
  | 0 => rfl
  | k + 1 => by simp [hexN, hexN_len n k]
def bodyB (n : Int) : B := 5 :: hexN 8 n ++ [47]

theorem and15 {x : Int} (h0 : 0 ≤ x) (h1 : x < 4611686018427387904) : IntKind.wrap .i64 (((BitVec.ofInt (IntKind.bits .i64) x &&& BitVec.ofInt (IntKind.bits .i64) (15 : Int)).toNat : Nat) : Int) = x % 16 := by
  have b : IntKind.bits .i64 = 64 := rfl
  obtain ⟨a, rfl⟩ := Int.eq_ofNat_of_zero_le h0
  have t1 : (BitVec.ofInt 64 (a : Int)).toNat = a := by rw [BitVec.toNat_ofInt]; omega
  have t2 : (BitVec.ofInt 64 (15 : Int)).toNat = 15 := rfl
  have e : a &&& 15 = a % 16 := Nat.and_two_pow_sub_one_eq_mod a 4
  rw [b, BitVec.toNat_and, t1, t2, e, w64 (by omega) (by omega)]
  omega

theorem body_l0 (n : Int) (h0 : 0 ≤ n) (h1 : n < 2147483648) : ∀ (k m : Nat) (acc : B), k ≤ 8 → k < m → acc.length + k < 1000 →
    path_Body_l0 NN m n (4 * (k : Int) - 4) (bytesI acc) = some ((), (bytesI (acc ++ hexN k n), ()))
  | _, 0, _, _, h, _ => absurd h (Nat.not_lt_zero _)
  | 0, m + 1, acc, _, _, _ => by
    rw [path_Body_l0_succ]
    simp only [path_Body_l0_step]
    rw [bif_f (by decide)]
    simp [hexN]
  | k + 1, m + 1, acc, hk, hm, hl => by
    have e : 4 * ((k + 1 : Nat) : Int) - 4 = ((4 * k : Nat) : Int) := by omega
    have d : decide ((0 : Int) ≤ ((4 * k : Nat) : Int)) = true := by simp; omega
    have p : (2 : Int) ^ min (Int.toNat ((4 * k : Nat) : Int)) (IntKind.bits .i64) = 16 ^ k := by
      have b : IntKind.bits .i64 = 64 := rfl
      rw [Int.toNat_natCast, b, Nat.min_eq_left (by omega), Int.pow_mul]; rfl
    have pp : (0 : Int) < 16 ^ k := Int.pow_pos (by omega)
    have f : Int.fdiv n (16 ^ k) = n / 16 ^ k := Int.fdiv_eq_ediv_of_nonneg _ (by omega)
    have q0 : 0 ≤ n / 16 ^ k := Int.ediv_nonneg h0 (by omega)
    have q1 : n / 16 ^ k ≤ n := Int.ediv_le_self _ h0
    have w : IntKind.wrap .i64 (((4 * k : Nat) : Int) - (4 : Int)) = 4 * (k : Int) - 4 := by
      rw [w64 (by omega) (by omega)]; omega
    have r : bt ([48, 49, 50, 51, 52, 53, 54, 55, 56, 57, 97, 98, 99, 100, 101, 102] : B) (n / 16 ^ k % 16) = ((dg (n / 16 ^ k % 16)).toNat : Int) := rfl
    rw [e, path_Body_l0_succ]
    simp only [path_Body_l0_step, d, cond_true, p, f, and15 q0 (by omega), w, r]
    rw [gd_t rfl, gd_t (by simp [inB]; omega), gd_t (fits_p (by simp [bytesI]; omega) (by omega))]
    have ha : bytesI acc ++ [((dg (n / 16 ^ k % 16)).toNat : Int)] = bytesI (acc ++ [dg (n / 16 ^ k % 16)]) := by simp [bytesI]
    rw [ha, body_l0 n h0 h1 k m _ (by omega) (by omega) (by simp; omega)]
    simp [hexN]

theorem Body_eq {n : Int} (h0 : 0 ≤ n) (h1 : n ≤ 2147483647) : path_Body NN n = some (bodyB n) := by
  have d0 : decide (n < 0) = false := by simp; omega
  have d1 : decide ((2147483647 : Int) < n) = false := by simp; omega
  have h := body_l0 n h0 (by omega) 8 NN [5] (by omega) (by simp only [NN]; omega) (by simp)
  have e5 : bytesI ([5] : B) = [(5 : Int)] := rfl
  have e8 : 4 * ((8 : Nat) : Int) - 4 = 28 := rfl
  rw [e5, e8] at h
  simp only [path_Body, d0, d1, cond_false, h]
  have e47 : bytesI ([5] ++ hexN 8 n) ++ [(47 : Int)] = bytesI (bodyB n) := by simp [bytesI, bodyB]
  rw [gd_t (fits_p (by simp [bytesI, hexN_len]) (by omega)), e47, UI]
theorem Body_none {n : Int} (h : n < 0 ∨ 2147483647 < n) : path_Body NN n = some [] := by
  simp only [path_Body]
  by_cases h0 : n < 0
  · rw [decide_eq_true h0]; rfl
  · rw [decide_eq_false h0, decide_eq_true (show (2147483647 : Int) < n by omega)]; rfl

theorem dig_mod (n : Int) (i c : Nat) : (n % 16 ^ (i + (c + 1))) / 16 ^ i % 16 = n / 16 ^ i % 16 := by
  have p : (0 : Int) < 16 ^ i := Int.pow_pos (by omega)
  have e : (16 : Int) ^ (i + (c + 1)) = 16 ^ i * (16 * 16 ^ c) := by rw [Int.pow_add, Int.pow_succ, Int.mul_comm (16 ^ c) 16]
  have h := Int.emod_add_mul_ediv n (16 ^ (i + (c + 1)))
  rw [e] at h ⊢
  generalize hr : n % (16 ^ i * (16 * 16 ^ c)) = r at *
  generalize n / (16 ^ i * (16 * 16 ^ c)) = q at *
  have h2 : n = r + 16 ^ i * (16 * (16 ^ c * q)) := by rw [← h, Int.mul_assoc, Int.mul_assoc]
  rw [h2, Int.add_mul_ediv_left _ _ (by omega), Int.add_mul_emod_self_left]
theorem hexN_mod (n : Int) : ∀ (k c : Nat), hexN k (n % 16 ^ (k + c)) = hexN k n
  | 0, _ => rfl
  | k + 1, c => by
    have e : k + 1 + c = k + (c + 1) := by omega
    simp only [hexN]
    rw [e, dig_mod n k c, hexN_mod n k (c + 1)]

theorem dg_all : ((List.range 16).all fun (a : Nat) => (List.range 16).all fun (b : Nat) => (decide (dg (a : Int) < dg (b : Int)) == decide (a < b)) && ((dg (a : Int) == dg (b : Int)) == decide (a = b))) = true := by decide +kernel
theorem dg_lt {a b : Int} (ha : 0 ≤ a) (ha' : a < 16) (hb : 0 ≤ b) (hb' : b < 16) : decide (dg a < dg b) = decide (a < b) ∧ (dg a == dg b) = decide (a = b) := by
  obtain ⟨x, rfl⟩ := Int.eq_ofNat_of_zero_le ha
  obtain ⟨y, rfl⟩ := Int.eq_ofNat_of_zero_le hb
  have := List.all_eq_true.1 (List.all_eq_true.1 dg_all x (List.mem_range.2 (by omega))) y (List.mem_range.2 (by omega))
  simp only [Bool.and_eq_true, beq_iff_eq] at this
  refine ⟨this.1.trans ?_, this.2.trans ?_⟩
  · rw [Bool.eq_iff_iff]; simp
  · rw [Bool.eq_iff_iff]; simp; omega

theorem hex_lt (t : B) (ht : lts t t = false) : ∀ (k : Nat) (n m : Int), 0 ≤ n → n < 16 ^ k → 0 ≤ m → m < 16 ^ k → lts (hexN k n ++ t) (hexN k m ++ t) = decide (n < m)
  | 0, n, m, h0, h1, h2, h3 => by
    simp only [Int.pow_zero] at h1 h3
    have : decide (n < m) = false := by simp; omega
    rw [this]; exact ht
  | k + 1, n, m, h0, h1, h2, h3 => by
    have p : (0 : Int) < 16 ^ k := Int.pow_pos (by omega)
    rw [Int.pow_succ] at h1 h3
    have q1 : n / 16 ^ k < 16 := Int.ediv_lt_of_lt_mul p (by rw [Int.mul_comm]; exact h1)
    have q2 : m / 16 ^ k < 16 := Int.ediv_lt_of_lt_mul p (by rw [Int.mul_comm]; exact h3)
    have q3 : 0 ≤ n / 16 ^ k := Int.ediv_nonneg h0 (by omega)
    have q4 : 0 ≤ m / 16 ^ k := Int.ediv_nonneg h2 (by omega)
    have m1 : n / 16 ^ k % 16 = n / 16 ^ k := Int.emod_eq_of_lt q3 q1
    have m2 : m / 16 ^ k % 16 = m / 16 ^ k := Int.emod_eq_of_lt q4 q2
    obtain ⟨d1, d2⟩ := dg_lt q3 q1 q4 q2
    have r := hex_lt t ht k (n % 16 ^ k) (m % 16 ^ k) (Int.emod_nonneg _ (by omega)) (Int.emod_lt_of_pos _ p) (Int.emod_nonneg _ (by omega)) (Int.emod_lt_of_pos _ p)
    have g1 := hexN_mod n k 0
    have g2 := hexN_mod m k 0
    simp only [Nat.add_zero] at g1 g2
    rw [g1, g2] at r
    simp only [hexN, List.cons_append, m1, m2]
    rw [lts_cons, d1, d2, r]
    have e1 := Int.emod_add_mul_ediv n (16 ^ k)
    have e2 := Int.emod_add_mul_ediv m (16 ^ k)
    have b1 := Int.emod_nonneg n (show (16 : Int) ^ k ≠ 0 by omega)
    have b2 := Int.emod_nonneg m (show (16 : Int) ^ k ≠ 0 by omega)
    have b3 := Int.emod_lt_of_pos n p
    have b4 := Int.emod_lt_of_pos m p
    generalize hN : n / 16 ^ k = a at *
    generalize hM : m / 16 ^ k = b at *
    generalize n % 16 ^ k = x at *
    generalize m % 16 ^ k = y at *
    generalize (16 : Int) ^ k = P at *
    rw [Bool.eq_iff_iff]
    simp only [Bool.or_eq_true, Bool.and_eq_true, decide_eq_true_eq]
    rcases Int.lt_trichotomy a b with h | h | h
    · have : P * (a + 1) ≤ P * b := Int.mul_le_mul_of_nonneg_left (by omega) (by omega)
      rw [Int.mul_add, Int.mul_one] at this
      constructor
      · intro _; omega
      · intro _; exact .inl h
    · subst h
      constructor
      · rintro (h | h)
        · omega
        · omega
      · intro h; exact .inr ⟨rfl, by omega⟩
    · have : P * (b + 1) ≤ P * a := Int.mul_le_mul_of_nonneg_left (by omega) (by omega)
      rw [Int.mul_add, Int.mul_one] at this
      constructor
      · rintro (h' | h')
        · omega
        · omega
      · intro h'; omega

theorem body_lt {n m : Int} (h0 : 0 ≤ n) (h1 : n ≤ 2147483647) (h2 : 0 ≤ m) (h3 : m ≤ 2147483647) : lts (bodyB n) (bodyB m) = decide (n < m) := by
  have p : (16 : Int) ^ 8 = 4294967296 := by decide
  have := hex_lt [47] (by decide) 8 n m h0 (by omega) h2 (by omega)
  have e : lts (bodyB n) (bodyB m) = (decide ((5 : UInt8) < 5) || ((5 : UInt8) == 5 && lts (hexN 8 n ++ [47]) (hexN 8 m ++ [47]))) := rfl
  rw [e, this]
  simp
theorem body_len (n : Int) : (bodyB n).length = 10 := by simp [bodyB, hexN_len]
theorem dg_sl (x : Int) : dg x ≠ 47 := by
  unfold dg
  by_cases h : x.toNat < digs.length
  · rw [List.getD_eq_getElem?_getD, List.getElem?_eq_getElem h]
    have : (digs.all fun b => b != 47) = true := by decide
    have := List.all_eq_true.1 this _ (List.getElem_mem h)
    simpa using this
  · rw [List.getD_eq_getElem?_getD, List.getElem?_eq_none (by omega)]
    decide
theorem hexN_sl (n : Int) : ∀ k, 47 ∉ hexN k n
  | 0 => by simp [hexN]
  | k + 1 => by
    simp only [hexN, List.mem_cons, not_or]
    exact ⟨fun h => dg_sl _ h.symm, hexN_sl n k⟩
theorem body_valid (n : Int) : validB (bodyB n) = false := by
  have h : 47 ∉ (5 :: hexN 8 n : B) := by
    simp only [List.mem_cons, not_or]
    exact ⟨by decide, hexN_sl n 8⟩
  have hn : nameB (5 :: hexN 8 n) = false := by
    cases hh : nameB (5 :: hexN 8 n)
    · rfl
    · have := List.all_eq_true.1 (name_all hh) 5 (by simp)
      exact absurd this (by decide)
  have := spl_mid (a := 5 :: hexN 8 n) (t := []) h
  unfold validB bodyB
  rw [this, List.all_cons, hn]; rfl

def joinR (p n : B) : B × Int := bif !(validB p) then ([], 10) else bif !(nameB n) then ([], 11) else bif decide ((200 : Int) < (p.length : Int) + (n.length : Int) + 1) then ([], 2) else (p ++ n ++ [47], 0)
theorem Join_gen {p n : B} (hp : p.length < 1000) (hn : n.length < 1000) : path_Join NN p n = some (joinR p n) := by
  have w : IntKind.wrap .i64 ((p.length : Int) + (n.length : Int)) = (p.length : Int) + (n.length : Int) := w64 (by omega) (by omega)
  have w2 : IntKind.wrap .i64 ((p.length : Int) + (n.length : Int) + (1 : Int)) = (p.length : Int) + (n.length : Int) + 1 := w64 (by omega) (by omega)
  simp only [path_Join, Valid_eq (s := p) (by omega), isName_eq, w, w2, joinR]
  cases validB p
  · rfl
  · simp only [Bool.not_true, cond_false]
    cases nameB n
    · rfl
    · simp only [Bool.not_true, cond_false]
      cases decide ((200 : Int) < (p.length : Int) + (n.length : Int) + 1)
      · simp only [cond_false]
        rw [gd_p (by simp only [maxS]; omega), gd_p (by simp only [maxS, List.length_append, List.length_singleton]; omega)]
      · rfl
def parseR (s : B) : B × Int := match s with
  | [] => ([], 10)
  | b :: t => bif b == 47 then bif eqs t [] then ([], 0) else bif decide ((200 : Int) < ((b :: t).length : Int)) then ([], 10) else bif validB (t ++ [47]) then (t ++ [47], 0) else ([], 10) else ([], 10)
theorem Parse_gen {s : B} (h : s.length < 1000) : path_Parse NN s = some (parseR s) := by
  rcases pre_cases s with h1 | ⟨t, rfl⟩
  · rw [Parse_no h1 (by omega)]
    cases s with
    | nil => rfl
    | cons b t =>
      have : (b == 47) = false := by
        cases e : b == 47
        · rfl
        · rw [eq_of_beq e] at h1; simp [List.isPrefixOf] at h1
      simp only [parseR, this, cond_false]
  · cases e : eqs t []
    · have : t ≠ [] := fun h => by rw [h, eqs_self] at e; cases e
      rw [Parse_sl t (by simp at h; omega) this]
      simp only [parseR, beq_self_eq_true, cond_true, e, cond_false]
    · rw [eqs_iff.1 e]; rfl

def longP : B := joinP (List.replicate 15 [116, 119, 101, 108, 118, 101, 108, 101, 116, 116, 101, 114])
def letters : B := [97, 98, 99, 100, 101, 102, 103, 104, 105, 106, 107, 108, 109]
theorem l2_eq (n : Int) : law01_PathLimits_l2 NN NN n true [] = some ((n, (true, longP)), ()) := by kernel_rfl
theorem limits_p0 (n : Int) (k : Nat) (hk : k < 14) (h : Int.tmod (IntKind.wrap .i64 n) 14 = (k : Int)) : law01_PathLimits_p0 NN n true = some (true, ()) := by
  have c : cut2 letters (0 : Int) (k : Int) = letters.take k := by simp [cut2]
  have c' : cut2 ([97, 98, 99, 100, 101, 102, 103, 104, 105, 106, 107, 108, 109] : B) (0 : Int) (k : Int) = letters.take k := c
  have hl : (letters.take k).length ≤ 13 := by simp [letters]; omega
  have hll : longP.length = 195 := by decide
  have e1 : (([47] : B) ++ longP ++ letters.take k).length < 1000 := by simp only [List.length_append, List.length_singleton]; omega
  simp only [law01_PathLimits_p0, l2_eq, h, c', Join_gen (p := longP) (n := letters.take k) (by omega) (by omega), Parse_gen e1]
  rw [gd_t (by simp; omega), gd_p (by simp only [maxS, List.length_singleton]; omega), gd_p (by simp only [maxS, List.length_append, List.length_singleton]; omega)]
  have : k = 0 ∨ k = 1 ∨ k = 2 ∨ k = 3 ∨ k = 4 ∨ k = 5 ∨ k = 6 ∨ k = 7 ∨ k = 8 ∨ k = 9 ∨ k = 10 ∨ k = 11 ∨ k = 12 ∨ k = 13 := by omega
  rcases this with rfl | rfl | rfl | rfl | rfl | rfl | rfl | rfl | rfl | rfl | rfl | rfl | rfl | rfl <;> decide +kernel

theorem i32_of_wf {n : Int} (h : (Lit.int .i32 n).wf = true) : -2147483648 ≤ n ∧ n ≤ 2147483647 := by
  simp [Lit.wf, IntKind.min, IntKind.max, IntKind.signed, IntKind.bits] at h
  omega

theorem plainLimits (w : V_a2_int32) (n : Int) (hw : okSh (.val T_a2_int32) w) (hn : okSh (.int .u8) n) : law01_PathLimits NN w n = some true := by
  have h1 := i32_of_wf hw.1
  have h2 := i32_of_wf hw.2
  have h3 := u8_of_wf hn
  have p0 : law01_PathLimits_p0 NN n true = some (true, ()) := by
    have t0 : 0 ≤ Int.tmod (IntKind.wrap .i64 n) 14 := Int.tmod_nonneg _ (by rw [w64 (by omega) (by omega)]; exact h3.1)
    have t1 : Int.tmod (IntKind.wrap .i64 n) 14 < 14 := Int.tmod_lt_of_pos _ (by omega)
    exact limits_p0 n (Int.tmod (IntKind.wrap .i64 n) 14).toNat (by omega) (by omega)
  have w1 : IntKind.wrap .i64 w.1 = w.1 := w64 (by omega) (by omega)
  have w2 : IntKind.wrap .i64 w.2 = w.2 := w64 (by omega) (by omega)
  have u : 0 ≤ IntKind.wrap .u32 w.1 ∧ IntKind.wrap .u32 w.1 < 4294967296 := by rw [IntKind.wrap_u32]; omega
  have b3 : path_Body NN (IntKind.wrap .i64 (IntKind.wrap .i64 (IntKind.wrap .u32 w.1) + (2147483648 : Int))) = some [] := by
    rw [w64 (n := IntKind.wrap .u32 w.1) (by omega) (by omega), w64 (by omega) (by omega)]
    exact Body_none (.inr (by omega))
  simp only [law01_PathLimits, sanity1, w1, w2, b3, eqs_self, Bool.not_true, cond_false]
  by_cases a : 0 ≤ w.1
  · have da : decide ((0 : Int) ≤ w.1) = true := decide_eq_true a
    have ne : eqs (bodyB w.1) [] = false := eqs_ne (by simp [bodyB])
    have l10 : eqi ((bodyB w.1).length : Int) 10 = true := by rw [body_len]; rfl
    have hv : path_Valid NN (bodyB w.1) = some false := by rw [Valid_eq (by rw [body_len]; omega), body_valid]
    simp only [Body_eq a h1.2, ne, da, hv, l10, Bool.not_false, Bool.not_true, cond_true, cond_false, eqb, beq_self_eq_true, law01_PathLimits_p1, p0]
    by_cases b : 0 ≤ w.2
    · have db : decide ((0 : Int) ≤ w.2) = true := decide_eq_true b
      simp only [Body_eq b h2.2, db, cond_true, body_lt a h1.2 b h2.2, beq_self_eq_true, Bool.not_true, cond_false]
    · have db : decide ((0 : Int) ≤ w.2) = false := decide_eq_false b
      simp only [Body_none (n := w.2) (.inl (by omega)), db, cond_false]
  · have da : decide ((0 : Int) ≤ w.1) = false := decide_eq_false a
    have hv : path_Valid NN ([] : B) = some true := rfl
    have hb2 : ∃ r, path_Body NN w.2 = some r := by
      by_cases b : 0 ≤ w.2
      · exact ⟨_, Body_eq b h2.2⟩
      · exact ⟨_, Body_none (.inl (by omega))⟩
    obtain ⟨r, hr⟩ := hb2
    simp only [Body_none (n := w.1) (.inl (by omega)), hr, eqs_self, da, hv, Bool.not_true, cond_true, cond_false, eqb, beq_self_eq_true, law01_PathLimits_p1, p0]
end Ds
