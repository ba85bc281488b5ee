/- What is read from bytes: the plain law of MsgBytes. -/
import Derived.Test.YtknfflpgemghmaaGreatDsBytes
set_option linter.all false
namespace Ds
open Go Go.Dv
set_option maxRecDepth 100000
set_option linter.unusedVariables false

/-! ## bytes -/
def Byts (l : List Int) : Prop := ∀ x ∈ l, 0 ≤ x ∧ x < 256
theorem byts_nil : Byts [] := fun x hx => by cases hx
theorem Byts.append {a b : List Int} (ha : Byts a) (hb : Byts b) : Byts (a ++ b) := fun x hx => (List.mem_append.1 hx).elim (ha x) (hb x)
theorem Byts.take {l : List Int} (h : Byts l) (n : Nat) : Byts (l.take n) := fun x hx => h x (List.mem_of_mem_take hx)
theorem Byts.drop {l : List Int} (h : Byts l) (n : Nat) : Byts (l.drop n) := fun x hx => h x (List.mem_of_mem_drop hx)
theorem byts_I (s : B) : Byts (bytesI s) := by
  intro x hx
  obtain ⟨b, _, rfl⟩ := List.mem_map.1 hx
  have := b.toNat_lt
  omega
theorem wrap_u8 {n : Int} : 0 ≤ IntKind.wrap .u8 n ∧ IntKind.wrap .u8 n < 256 := by rw [IntKind.wrap_u8]; omega
theorem byts_n (v : Int) : ∀ w, Byts (bytes v w)
  | 0 => fun x hx => by cases hx
  | w + 1 => fun x hx => by
    rcases List.mem_cons.1 hx with rfl | hx
    · exact wrap_u8
    · exact byts_n v w x hx
theorem IU {l : List Int} (h : Byts l) : bytesI (bytesU l) = l := by
  unfold bytesI bytesU
  rw [List.map_map]
  conv => rhs; rw [← List.map_id l]
  refine List.map_congr_left fun x hx => ?_
  have := h x hx
  have e : (UInt8.ofNat x.toNat).toNat = x.toNat % 256 := by simp
  simp only [Function.comp, id, e]
  omega
theorem UI (s : B) : bytesU (bytesI s) = s := by
  unfold bytesI bytesU
  rw [List.map_map]
  conv => rhs; rw [← List.map_id s]
  refine List.map_congr_left fun x hx => ?_
  simp only [Function.comp, id, Int.toNat_natCast]
  exact UInt8.ofNat_toNat
theorem U_len (l : List Int) : (bytesU l).length = l.length := by simp [bytesU]
theorem U_inj {a b : List Int} (ha : Byts a) (hb : Byts b) (h : bytesU a = bytesU b) : a = b := by rw [← IU ha, h, IU hb]

def rdN (l : List Int) : Int := l.foldl (fun n x => n * 256 + x) 0
theorem rd_gen (l : List Int) (n : Int) : l.foldl (fun n x => n * 256 + x) n = n * 256 ^ l.length + rdN l := by
  unfold rdN
  induction l generalizing n with
  | nil => simp
  | cons x l ih =>
    rw [List.foldl_cons, ih, List.foldl_cons, ih (0 * 256 + x)]
    rw [List.length_cons, Int.pow_succ]
    have : n * (256 ^ l.length * 256) = n * 256 * 256 ^ l.length := by rw [Int.mul_comm (256 ^ l.length) 256, Int.mul_assoc]
    rw [this, Int.add_mul]
    simp
    omega
theorem rd_bound {l : List Int} (h : Byts l) : 0 ≤ rdN l ∧ rdN l < 256 ^ l.length := by
  induction l with
  | nil => simp [rdN]
  | cons x l ih =>
    have hx := h x (by simp)
    have ih := ih fun y hy => h y (by simp [hy])
    have e : rdN (x :: l) = x * 256 ^ l.length + rdN l := by
      have := rd_gen l (0 * 256 + x)
      simp only [rdN, List.foldl_cons] at this ⊢
      rw [this]; simp
    have p : (0 : Int) < 256 ^ l.length := Int.pow_pos (by omega)
    have q : x * 256 ^ l.length ≤ 255 * 256 ^ l.length := Int.mul_le_mul_of_nonneg_right (by omega) (by omega)
    have r : 0 ≤ x * 256 ^ l.length := Int.mul_nonneg hx.1 (by omega)
    rw [e, List.length_cons, Int.pow_succ]
    omega

theorem byt_nat {v : Int} (h0 : 0 ≤ v) (w : Nat) : byt v w = v / 256 ^ w % 256 := by
  unfold byt
  have e : (2 : Int) ^ (8 * w) = 256 ^ w := by rw [Int.pow_mul]; rfl
  have p : (0 : Int) < 256 ^ w := Int.pow_pos (by omega)
  rw [e, Int.fdiv_eq_ediv_of_nonneg _ (by omega), IntKind.wrap_u8]

theorem rd_bytes : ∀ (w : Nat) {v : Int}, 0 ≤ v → rdN (bytes v w) = v % 256 ^ w
  | 0, v, h => by simp [bytes, rdN, Int.emod_one]
  | w + 1, v, h => by
    have e : rdN (bytes v (w + 1)) = byt v w * 256 ^ w + rdN (bytes v w) := by
      have := rd_gen (bytes v w) (0 * 256 + byt v w)
      simp only [rdN, bytes, List.foldl_cons] at this ⊢
      rw [this, bytes_len]; simp
    rw [e, byt_nat h, rd_bytes w h, Int.pow_succ]
    have p : (0 : Int) < 256 ^ w := Int.pow_pos (by omega)
    have h1 := Int.emod_add_mul_ediv v (256 ^ w * 256)
    have h2 := Int.emod_add_mul_ediv v (256 ^ w)
    have h3 := Int.emod_add_mul_ediv (v / 256 ^ w) 256
    have h4 : v / (256 ^ w * 256) = v / 256 ^ w / 256 := by rw [Int.ediv_ediv_of_nonneg (by omega)]
    rw [h4] at h1
    have h5 : 256 ^ w * 256 * (v / 256 ^ w / 256) = 256 ^ w * (256 * (v / 256 ^ w / 256)) := by rw [Int.mul_assoc]
    have h6 : 256 ^ w * (v / 256 ^ w) = 256 ^ w * (v / 256 ^ w % 256) + 256 ^ w * (256 * (v / 256 ^ w / 256)) := by rw [← Int.mul_add, h3]
    rw [Int.mul_comm (v / 256 ^ w % 256)]
    omega

theorem bytes_mod (v u : Int) (hv : 0 ≤ v) (hu : 0 ≤ u) : ∀ w, v % 256 ^ w = u % 256 ^ w → bytes v w = bytes u w
  | 0, _ => rfl
  | w + 1, h => by
    have p : (0 : Int) < 256 ^ w := Int.pow_pos (by omega)
    have dv : (256 : Int) ^ w ∣ 256 ^ (w + 1) := ⟨256, by rw [Int.pow_succ]⟩
    have e1 : v % 256 ^ w = u % 256 ^ w := by
      rw [← Int.emod_emod_of_dvd v dv, ← Int.emod_emod_of_dvd u dv, h]
    have e2 : ∀ x : Int, 0 ≤ x → x / 256 ^ w % 256 = x % 256 ^ (w + 1) / 256 ^ w := by
      intro x hx
      rw [Int.pow_succ]
      have h1 := Int.emod_add_mul_ediv x (256 ^ w * 256)
      have h5 : 256 ^ w * 256 * (x / (256 ^ w * 256)) = 256 ^ w * (256 * (x / (256 ^ w * 256))) := by rw [Int.mul_assoc]
      have h2 : x / 256 ^ w = x % (256 ^ w * 256) / 256 ^ w + 256 * (x / (256 ^ w * 256)) := by
        conv => lhs; rw [← h1, h5]
        rw [Int.add_mul_ediv_left _ _ (by omega)]
      have b0 : 0 ≤ x % (256 ^ w * 256) := Int.emod_nonneg _ (by omega)
      have b1 : x % (256 ^ w * 256) < 256 ^ w * 256 := Int.emod_lt_of_pos _ (by omega)
      have b2 : x % (256 ^ w * 256) / 256 ^ w < 256 := Int.ediv_lt_of_lt_mul p (by rw [Int.mul_comm 256 (256 ^ w)]; exact b1)
      have b3 : 0 ≤ x % (256 ^ w * 256) / 256 ^ w := Int.ediv_nonneg b0 (by omega)
      omega
    simp only [bytes]
    rw [byt_nat hv, byt_nat hu, e2 v hv, e2 u hu, h, bytes_mod v u hv hu w e1]

theorem bytes_rd : ∀ {l : List Int}, Byts l → bytes (rdN l) l.length = l
  | [], _ => rfl
  | x :: l, h => by
    have hx := h x (by simp)
    have hl : Byts l := fun y hy => h y (by simp [hy])
    have e : rdN (x :: l) = x * 256 ^ l.length + rdN l := by
      have := rd_gen l (0 * 256 + x)
      simp only [rdN, List.foldl_cons] at this ⊢
      rw [this]; simp
    have b := rd_bound hl
    have p : (0 : Int) < 256 ^ l.length := Int.pow_pos (by omega)
    have r : 0 ≤ x * 256 ^ l.length := Int.mul_nonneg hx.1 (by omega)
    simp only [List.length_cons, bytes]
    have e1 : byt (rdN (x :: l)) l.length = x := by
      rw [byt_nat (by rw [e]; omega), e, Int.add_comm, Int.add_mul_ediv_right _ _ (by omega), Int.ediv_eq_zero_of_lt b.1 b.2]
      omega
    rw [e1, bytes_mod (rdN (x :: l)) (rdN l) (by rw [e]; omega) b.1 l.length (by rw [e, Int.add_comm, Int.add_mul_emod_self_right]), bytes_rd hl]

theorem or_step {n x : Int} (h0 : 0 ≤ n) (h1 : n < 1099511627776) (hx0 : 0 ≤ x) (hx : x < 256) :
    IntKind.wrap .i64 (((BitVec.ofInt (IntKind.bits .i64) (IntKind.wrap .i64 (n * 2 ^ min (Int.toNat (8 : Int)) (IntKind.bits .i64))) ||| BitVec.ofInt (IntKind.bits .i64) (IntKind.wrap .i64 x)).toNat : Nat) : Int) = n * 256 + x := by
  have e0 : (2 : Int) ^ min (Int.toNat (8 : Int)) (IntKind.bits .i64) = 256 := by decide
  have e1 : IntKind.wrap .i64 (n * 256) = n * 256 := w64 (by omega) (by omega)
  have e2 : IntKind.wrap .i64 x = x := w64 (by omega) (by omega)
  have b : IntKind.bits .i64 = 64 := rfl
  rw [e0, e1, e2, b, BitVec.toNat_or]
  obtain ⟨a, rfl⟩ := Int.eq_ofNat_of_zero_le h0
  obtain ⟨c, rfl⟩ := Int.eq_ofNat_of_zero_le hx0
  have t1 : (BitVec.ofInt 64 ((a : Int) * 256)).toNat = a * 256 := by
    rw [BitVec.toNat_ofInt]; omega
  have t2 : (BitVec.ofInt 64 (c : Int)).toNat = c := by
    rw [BitVec.toNat_ofInt]; omega
  have hor : a * 256 ||| c = a * 256 + c := by
    have := Nat.two_pow_add_eq_or_of_lt (i := 8) (b := c) (by omega) a
    rw [show (2 : Nat) ^ 8 = 256 from rfl] at this
    rw [Nat.mul_comm a 256, ← this]
  rw [t1, t2, hor, w64 (by omega) (by omega)]
  omega

/-! ## the reader -/
abbrev Rs := List Int × Bool
def tk (n : Int) (s : Rs) : List Int × Rs := bif decide ((s.1.length : Int) < n) then ([], ([], true)) else (s.1.take n.toNat, (s.1.drop n.toNat, s.2))
def nm' (w : Int) (s : Rs) : Int × Rs := (rdN (tk w s).1, (tk w s).2)
def tx (s : Rs) : B × Rs := (bytesU (tk (nm' 2 s).1 (nm' 2 s).2).1, (tk (nm' 2 s).1 (nm' 2 s).2).2)

theorem take_eq (N : Nat) (n : Int) (hn : 0 ≤ n) (s : Rs) : msg_reader_take_m N n s.1 s.2 = some ((tk n s).1, (((tk n s).2.1, (tk n s).2.2), ())) := by
  simp only [msg_reader_take_m, tk]
  cases e : decide ((s.1.length : Int) < n)
  · have e := of_decide_eq_false e
    simp only [cond_false]
    rw [gd_t (by simp; omega), gd_t (by simp; omega)]
    have c1 : cut2 s.1 (0 : Int) n = s.1.take n.toNat := by simp [cut2]
    have c2 : cut2 s.1 n (s.1.length : Int) = s.1.drop n.toNat := by
      simp only [cut2, Int.toNat_natCast]
      exact List.take_of_length_le (by simp)
    rw [c1, c2]
  · rfl

theorem tk_byts {n : Int} {s : Rs} (h : Byts s.1) : Byts (tk n s).1 ∧ Byts (tk n s).2.1 := by
  unfold tk
  cases decide ((s.1.length : Int) < n)
  · exact ⟨h.take _, h.drop _⟩
  · exact ⟨byts_nil, byts_nil⟩
theorem tk_len (n : Int) (hn : 0 ≤ n) (s : Rs) : ((tk n s).1.length : Int) ≤ n := by
  unfold tk
  cases decide ((s.1.length : Int) < n)
  · simp only [cond_false, List.length_take]; omega
  · simpa using hn

theorem num_l0 (b : List Int) (sh : Bool) : ∀ (post pre : List Int) (n : Nat) (acc : Int), post.length < n → (pre ++ post).length ≤ 4 → Byts post → 0 ≤ acc → acc < 256 ^ pre.length →
    msg_reader_number_m_l0 NN n acc (pre ++ post) ((pre ++ post).length : Int) (pre.length : Int) b sh = some (post.foldl (fun n x => n * 256 + x) acc, ((b, sh), ()))
  | _, _, 0, _, h, _, _, _, _ => absurd h (Nat.not_lt_zero _)
  | [], pre, n + 1, acc, _, _, _, _, _ => by
    rw [msg_reader_number_m_l0_succ]
    simp only [msg_reader_number_m_l0_step, List.append_nil, Int.lt_irrefl, decide_false, cond_false]
    rfl
  | x :: post, pre, n + 1, acc, hn, hl, hb, h0, h1 => by
    simp only [List.length_cons] at hn
    have hx := hb x (by simp)
    have hp : pre.length ≤ 3 := by simp at hl; omega
    have h2 : (256 : Int) ^ pre.length ≤ 256 ^ 3 := by
      have := Nat.pow_le_pow_right (n := 256) (by omega) hp
      exact_mod_cast this
    have h3 : (256 : Int) ^ 3 = 16777216 := by decide
    have ho := or_step h0 (by omega) hx.1 hx.2
    rw [msg_reader_number_m_l0_succ]
    simp only [msg_reader_number_m_l0_step, lt_mid, in_mid, cond_true, rd_mid, ho]
    rw [gd_t rfl, gd_p (by decide), wr_mid (q := x) (by omega), app_mid (pre := pre) (q := x) (post := post)]
    refine num_l0 b sh post (pre ++ [x]) n (acc * 256 + x) (by omega) (by simpa using hl) (fun y hy => hb y (by simp [hy])) (by omega) ?_
    rw [List.length_append, List.length_cons, List.length_nil, Int.pow_succ]
    omega

theorem num_eq (w : Nat) (hw : w ≤ 4) (s : Rs) (hb : Byts s.1) : msg_reader_number_m NN (w : Int) s.1 s.2 = some ((nm' w s).1, (((nm' w s).2.1, (nm' w s).2.2), ())) := by
  have hl := tk_len (w : Int) (by omega) s
  have h := num_l0 (tk w s).2.1 (tk w s).2.2 (tk w s).1 [] NN 0 (by simp only [NN]; omega) (by simp; omega) (tk_byts hb).1 (by omega) (by simp)
  have hz : (([] : List Int).length : Int) = 0 := rfl
  simp only [List.nil_append, hz] at h
  simp only [msg_reader_number_m, take_eq NN (w : Int) (by omega) s, h]
  rfl

theorem nm_pos (w : Int) {s : Rs} (hb : Byts s.1) : 0 ≤ (nm' w s).1 := (rd_bound (tk_byts hb).1).1
theorem text_eq (s : Rs) (hb : Byts s.1) : msg_reader_text_m NN s.1 s.2 = some ((tx s).1, (((tx s).2.1, (tx s).2.2), ())) := by
  have h := num_eq 2 (by omega) s hb
  simp only [show ((2 : Nat) : Int) = 2 from rfl] at h
  simp only [msg_reader_text_m, h, take_eq NN (nm' 2 s).1 (nm_pos 2 hb) (nm' 2 s).2]
  rfl

theorem nm_byts {w : Int} {s : Rs} (hb : Byts s.1) : Byts (nm' w s).2.1 := (tk_byts hb).2
theorem tx_byts {s : Rs} (hb : Byts s.1) : Byts (tx s).2.1 := (tk_byts (nm_byts hb)).2

/-- what is read last -/
def finB (c : List Int) (m : Mg) (s : Rs) : Mg × Int × Int := bif s.2 then ((0, [], [], ([], []), [], [], 0), 0, 3) else bif vldB m then (m, (c.length : Int) - (s.1.length : Int), 0) else ((0, [], [], ([], []), [], [], 0), 0, 3)

theorem parse_p0 (c : List Int) (hc : c.length < 1000000000) (s : Rs) (hs : s.1.length ≤ c.length) (m : Mg) : msg_Parse_p0 NN c (0 : Int) [] [] [] [] [] [] (0 : Int) s.1 s.2 m.1 m.2.1 m.2.2.1 m.2.2.2.1.1 m.2.2.2.1.2 m.2.2.2.2.1 m.2.2.2.2.2.1 m.2.2.2.2.2.2 =
    some (((), (finB c m s).2), ((finB c m s).1.1, (finB c m s).1.2.1, (finB c m s).1.2.2.1, (finB c m s).1.2.2.2.1.1, (finB c m s).1.2.2.2.1.2, (finB c m s).1.2.2.2.2), ()) := by
  have e : (m.1, m.2.1, m.2.2.1, (m.2.2.2.1.1, m.2.2.2.1.2), m.2.2.2.2.1, m.2.2.2.2.2.1, m.2.2.2.2.2.2) = m := rfl
  have w : IntKind.wrap .i64 ((c.length : Int) - (s.1.length : Int)) = (c.length : Int) - (s.1.length : Int) := w64 (by omega) (by omega)
  simp only [msg_Parse_p0, e, Valid_eq, finB, w]
  cases s.2
  · simp only [cond_false]
    cases vldB m <;> rfl
  · rfl

def parseB (c : List Int) : Mg × Int × Int :=
  let s0 : Rs := (c, false)
  let k := (nm' 1 s0).1; let s1 := (nm' 1 s0).2
  let a := (tx s1).1; let s2 := (tx s1).2
  let b := (tx s2).1; let s3 := (tx s2).2
  let n := (nm' 4 s3).1; let s4 := (nm' 4 s3).2
  bif eqi k 1 then finB c (k, a, b, ([], []), [], [], n) s4 else
  bif eqi k 2 then finB c (k, a, [], ([], []), [], [], 0) s2 else
  bif eqi k 3 then finB c (k, [], [], (a, b), [], [], 0) s3 else
  bif eqi k 4 then finB c (k, [], [], ([], []), a, b, 0) s3 else
  bif eqi k 5 then finB c (k, [], [], ([], []), a, b, 0) s3 else
  bif eqi k 6 then finB c (k, [], [], (a, b), [], [], n) s4 else finB c (k, [], [], ([], []), [], [], 0) s1

theorem tk_le (n : Int) (s : Rs) : (tk n s).2.1.length ≤ s.1.length := by
  unfold tk
  cases decide ((s.1.length : Int) < n)
  · simp
  · simp
theorem nm_le (n : Int) (s : Rs) : (nm' n s).2.1.length ≤ s.1.length := tk_le n s
theorem tx_le (s : Rs) : (tx s).2.1.length ≤ s.1.length := Nat.le_trans (tk_le _ _) (nm_le 2 s)

theorem Parse_eq {c : List Int} (hb : Byts c) (hc : c.length < 1000000000) : msg_Parse NN c = some (parseB c) := by
  have n1 := num_eq 1 (by omega) (c, false) hb
  simp only [show ((1 : Nat) : Int) = 1 from rfl] at n1
  have b1 : Byts (nm' 1 (c, false)).2.1 := nm_byts hb
  have t1 := text_eq _ b1
  have b2 := tx_byts b1
  have t2 := text_eq _ b2
  have b3 := tx_byts b2
  have n4 := num_eq 4 (by omega) _ b3
  simp only [show ((4 : Nat) : Int) = 4 from rfl] at n4
  have l1 : (nm' 1 (c, false)).2.1.length ≤ c.length := nm_le 1 (c, false)
  have l2 := Nat.le_trans (tx_le (nm' 1 (c, false)).2) l1
  have l3 := Nat.le_trans (tx_le (tx (nm' 1 (c, false)).2).2) l2
  have l4 := Nat.le_trans (nm_le 4 (tx (tx (nm' 1 (c, false)).2).2).2) l3
  have p := fun s hs m => parse_p0 c hc s hs m
  simp only [msg_Parse, n1, parseB]
  cases eqi (nm' 1 (c, false)).1 1
  case true =>
    simp only [cond_true, t1, t2, n4]
    have h := p _ l4 ((nm' 1 (c, false)).1, (tx (nm' 1 (c, false)).2).1, (tx (tx (nm' 1 (c, false)).2).2).1, ([], []), [], [], (nm' 4 (tx (tx (nm' 1 (c, false)).2).2).2).1)
    simp only at h
    simp only [h]
  case false =>
  cases eqi (nm' 1 (c, false)).1 2
  case true =>
    simp only [cond_true, cond_false, t1]
    have h := p _ l2 ((nm' 1 (c, false)).1, (tx (nm' 1 (c, false)).2).1, [], ([], []), [], [], 0)
    simp only at h
    simp only [h]
  case false =>
  cases eqi (nm' 1 (c, false)).1 3
  case true =>
    simp only [cond_true, cond_false, t1, t2]
    have h := p _ l3 ((nm' 1 (c, false)).1, [], [], ((tx (nm' 1 (c, false)).2).1, (tx (tx (nm' 1 (c, false)).2).2).1), [], [], 0)
    simp only at h
    simp only [h]
  case false =>
  cases eqi (nm' 1 (c, false)).1 4
  case true =>
    simp only [cond_true, cond_false, t1, t2]
    have h := p _ l3 ((nm' 1 (c, false)).1, [], [], ([], []), (tx (nm' 1 (c, false)).2).1, (tx (tx (nm' 1 (c, false)).2).2).1, 0)
    simp only at h
    simp only [h]
  case false =>
  cases eqi (nm' 1 (c, false)).1 5
  case true =>
    simp only [cond_true, cond_false, t1, t2]
    have h := p _ l3 ((nm' 1 (c, false)).1, [], [], ([], []), (tx (nm' 1 (c, false)).2).1, (tx (tx (nm' 1 (c, false)).2).2).1, 0)
    simp only at h
    simp only [h]
  case false =>
  cases eqi (nm' 1 (c, false)).1 6
  case true =>
    simp only [cond_true, cond_false, t1, t2, n4]
    have h := p _ l4 ((nm' 1 (c, false)).1, [], [], ((tx (nm' 1 (c, false)).2).1, (tx (tx (nm' 1 (c, false)).2).2).1), [], [], (nm' 4 (tx (tx (nm' 1 (c, false)).2).2).2).1)
    simp only at h
    simp only [h]
  case false =>
    simp only [cond_false]
    have h := p _ l1 ((nm' 1 (c, false)).1, [], [], ([], []), [], [], 0)
    simp only at h
    simp only [h]

/-! ## reading what was written -/
theorem tk_app (a b : List Int) (s : Bool) : tk (a.length : Int) (a ++ b, s) = (a, (b, s)) := by
  unfold tk
  rw [decide_eq_false (by simp; omega)]
  simp
theorem nm_app {v : Int} (w : Nat) (h0 : 0 ≤ v) (h1 : v < 256 ^ w) (b : List Int) (s : Bool) : nm' (w : Int) (bytes v w ++ b, s) = (v, (b, s)) := by
  have h := tk_app (bytes v w) b s
  rw [bytes_len] at h
  unfold nm'
  rw [h, rd_bytes w h0, Int.emod_eq_of_lt h0 h1]
theorem tx_app {a : B} (ha : a.length < 65536) (b : List Int) (s : Bool) : tx (textB a ++ b, s) = (a, (b, s)) := by
  have e : textB a ++ b = bytes (a.length : Int) 2 ++ (bytesI a ++ b) := by simp [textB]
  have h := nm_app (v := (a.length : Int)) 2 (by omega) (by have : (256 : Int) ^ 2 = 65536 := (by decide); omega) (bytesI a ++ b) s
  simp only [show ((2 : Nat) : Int) = 2 from rfl] at h
  have h2 := tk_app (bytesI a) b s
  rw [bytesI_len] at h2
  unfold tx
  rw [e, h]
  simp only [h2, UI]

theorem byts_t (s : B) : Byts (textB s) := (byts_n _ _).append (byts_I s)
theorem byts_m (m : Mg) : Byts (bytesM m) := by
  intro x hx
  rcases List.mem_cons.1 hx with rfl | hx
  · exact wrap_u8
  · have : Byts (bodyB m) := by
      unfold bodyB
      cases eqi m.1 1
      · cases eqi m.1 2
        · cases eqi m.1 3
          · cases eqi m.1 6
            · exact (byts_t _).append (byts_t _)
            · exact ((byts_t _).append (byts_t _)).append (byts_n _ _)
          · exact (byts_t _).append (byts_t _)
        · exact byts_t _
      · exact ((byts_t _).append (byts_t _)).append (byts_n _ _)
    exact this x hx

theorem fin_ok {c rest : List Int} {m : Mg} (h : vldB m = true) (hc : c = bytesM m ++ rest) : finB c m (rest, false) = (m, ((bytesM m).length : Int), 0) := by
  unfold finB
  simp only [cond_false, h, cond_true]
  rw [hc, List.length_append]
  congr 2
  omega

theorem k1 {k : Int} (h0 : 0 ≤ k) (h1 : k < 256) (b : List Int) : nm' 1 (IntKind.wrap .u8 k :: b, false) = (k, (b, false)) := by
  have e : IntKind.wrap .u8 k = k := by rw [IntKind.wrap_u8]; omega
  have h := tk_app [k] b false
  unfold nm'
  rw [e]
  rw [show (1 : Int) = (([k] : List Int).length : Int) from rfl, show k :: b = [k] ++ b from rfl, h]
  simp [rdN]

theorem parse_bytes {m : Mg} (h : vldB m = true) (rest : List Int) : parseB (bytesM m ++ rest) = (m, ((bytesM m).length : Int), 0) := by
  have p4 : (256 : Int) ^ 4 = 4294967296 := by decide
  have n4 := fun (v : Int) h0 h1 b s => nm_app (v := v) 4 h0 h1 b s
  simp only [show ((4 : Nat) : Int) = 4 from rfl] at n4
  rcases vld_cases h with ⟨k, v, n, rfl, h1, h2, h3, h4, h5⟩ | ⟨k, rfl, h1, h2⟩ | ⟨s, rfl, h1⟩ | ⟨k, e, rfl, hk, h1⟩ | ⟨s, n, rfl, h1, h2, h3⟩
  · have hc : bytesM (putMsg k v n) ++ rest = IntKind.wrap .u8 1 :: (textB k ++ (textB v ++ (bytes n 4 ++ rest))) := by
      show _ :: (textB k ++ textB v ++ bytes n 4 ++ rest) = _
      simp
    have f := fin_ok h hc.symm
    rw [hc]
    simp only [parseB, k1 (k := 1) (by omega) (by omega), tx_app (a := k) (by omega), tx_app (a := v) (by omega), n4 n h4 (by omega), eqi_self, cond_true]
    exact f
  · have hc : bytesM (delMsg k) ++ rest = IntKind.wrap .u8 2 :: (textB k ++ rest) := rfl
    have f := fin_ok h hc.symm
    have j1 : eqi (2 : Int) 1 = false := by decide
    rw [hc]
    simp only [parseB, k1 (k := 2) (by omega) (by omega), tx_app (a := k) (by omega), j1, eqi_self, cond_true, cond_false]
    exact f
  · have := spanV_len h1
    have hc : bytesM (dropMsg s) ++ rest = IntKind.wrap .u8 3 :: (textB s.1 ++ (textB s.2 ++ rest)) := by
      show _ :: (textB s.1 ++ textB s.2 ++ rest) = _
      simp
    have f := fin_ok h hc.symm
    have j1 : eqi (3 : Int) 1 = false := by decide
    have j2 : eqi (3 : Int) 2 = false := by decide
    rw [hc]
    simp only [parseB, k1 (k := 3) (by omega) (by omega), tx_app (a := s.1) (by omega), tx_app (a := s.2) (by omega), j1, j2, eqi_self, cond_true, cond_false]
    exact f
  · have := apartV_len h1
    have hc : bytesM (mv k e) ++ rest = IntKind.wrap .u8 k :: (textB e.1 ++ (textB e.2 ++ rest)) := by
      have : bodyB (mv k e) = textB e.1 ++ textB e.2 := by rcases hk with rfl | rfl <;> rfl
      show _ :: (bodyB (mv k e) ++ rest) = _
      rw [this]; simp
    have f := fin_ok h hc.symm
    have j : ∀ x : Int, x ≠ 4 → x ≠ 5 → eqi k x = false := fun x h1 h2 => eqi_ne (by rcases hk with rfl | rfl <;> omega)
    rw [hc]
    simp only [parseB, k1 (k := k) (by rcases hk with rfl | rfl <;> omega) (by rcases hk with rfl | rfl <;> omega), tx_app (a := e.1) (by omega), tx_app (a := e.2) (by omega), j 1 (by omega) (by omega), j 2 (by omega) (by omega), j 3 (by omega) (by omega), cond_false]
    rcases hk with rfl | rfl
    · exact f
    · exact f
  · have := spanV_len h1
    have hc : bytesM (stampMsg s n) ++ rest = IntKind.wrap .u8 6 :: (textB s.1 ++ (textB s.2 ++ (bytes n 4 ++ rest))) := by
      show _ :: (textB s.1 ++ textB s.2 ++ bytes n 4 ++ rest) = _
      simp
    have f := fin_ok h hc.symm
    have j1 : eqi (6 : Int) 1 = false := by decide
    have j2 : eqi (6 : Int) 2 = false := by decide
    have j3 : eqi (6 : Int) 3 = false := by decide
    have j4 : eqi (6 : Int) 4 = false := by decide
    have j5 : eqi (6 : Int) 5 = false := by decide
    rw [hc]
    simp only [parseB, k1 (k := 6) (by omega) (by omega), tx_app (a := s.1) (by omega), tx_app (a := s.2) (by omega), n4 n h2 (by omega), j1, j2, j3, j4, j5, eqi_self, cond_true, cond_false]
    exact f

/-! ## what is read was written -/
theorem tk_inv {n : Int} (hn : 0 ≤ n) {s : Rs} (h : (tk n s).2.2 = false) : s.2 = false ∧ s.1 = (tk n s).1 ++ (tk n s).2.1 ∧ ((tk n s).1.length : Int) = n := by
  unfold tk at h ⊢
  cases e : decide ((s.1.length : Int) < n)
  · rw [e] at h
    have e := of_decide_eq_false e
    refine ⟨h, by simp, ?_⟩
    simp only [cond_false, List.length_take]; omega
  · rw [e] at h; cases h
theorem nm_inv (w : Nat) {s : Rs} (hb : Byts s.1) (h : (nm' w s).2.2 = false) : s.2 = false ∧ s.1 = bytes (nm' w s).1 w ++ (nm' w s).2.1 := by
  obtain ⟨h1, h2, h3⟩ := tk_inv (by omega) h
  refine ⟨h1, ?_⟩
  have hl : (tk (w : Int) s).1.length = w := by omega
  have := bytes_rd (tk_byts (n := (w : Int)) hb).1
  rw [hl] at this
  unfold nm'
  rw [this]; exact h2
theorem tx_inv {s : Rs} (hb : Byts s.1) (h : (tx s).2.2 = false) : s.2 = false ∧ s.1 = textB (tx s).1 ++ (tx s).2.1 := by
  have hb1 : Byts (nm' 2 s).2.1 := nm_byts hb
  obtain ⟨h1, h2, h3⟩ := tk_inv (nm_pos 2 hb) h
  have g := nm_inv 2 hb (by simp only [show ((2 : Nat) : Int) = 2 from rfl]; exact h1)
  simp only [show ((2 : Nat) : Int) = 2 from rfl] at g
  refine ⟨g.1, ?_⟩
  rw [g.2]
  unfold tx textB
  simp only
  rw [U_len, IU (tk_byts hb1).1, h3]
  conv => lhs; rw [h2]
  simp

theorem fin_inv {c : List Int} {m : Mg} {s : Rs} (h : (finB c m s).2.2 = 0) : s.2 = false ∧ vldB m = true ∧ finB c m s = (m, (c.length : Int) - (s.1.length : Int), 0) := by
  have e : finB c m s = bif s.2 then ((0, [], [], ([], []), [], [], 0), 0, 3) else bif vldB m then (m, (c.length : Int) - (s.1.length : Int), 0) else ((0, [], [], ([], []), [], [], 0), 0, 3) := rfl
  rw [e] at h ⊢
  cases e1 : s.2
  · rw [e1] at h
    cases e2 : vldB m
    · rw [e2] at h; cases h
    · exact ⟨rfl, rfl, rfl⟩
  · rw [e1] at h; cases h
theorem fin_err {c : List Int} {m : Mg} {s : Rs} (h : (finB c m s).2.2 ≠ 0) : finB c m s = ((0, [], [], ([], []), [], [], 0), 0, 3) := by
  unfold finB at h ⊢
  cases e : s.2
  · rw [e] at h
    simp only [cond_false] at h ⊢
    cases e2 : vldB m
    · rfl
    · rw [e2] at h; exact absurd rfl h
  · rfl

def parseC (c : List Int) (k : Int) (a b : B) (n : Int) (s1 s2 s3 s4 : Rs) : Mg × Int × Int :=
  bif eqi k 1 then finB c (k, a, b, ([], []), [], [], n) s4 else
  bif eqi k 2 then finB c (k, a, [], ([], []), [], [], 0) s2 else
  bif eqi k 3 then finB c (k, [], [], (a, b), [], [], 0) s3 else
  bif eqi k 4 then finB c (k, [], [], ([], []), a, b, 0) s3 else
  bif eqi k 5 then finB c (k, [], [], ([], []), a, b, 0) s3 else
  bif eqi k 6 then finB c (k, [], [], (a, b), [], [], n) s4 else finB c (k, [], [], ([], []), [], [], 0) s1

theorem parseC_cases {c : List Int} {k : Int} {a b : B} {n : Int} {s1 s2 s3 s4 : Rs}
    (F1 : s1.2 = false → c = bytes k 1 ++ s1.1) (F0 : 0 ≤ k)
    (F2 : s2.2 = false → s1.2 = false ∧ s1.1 = textB a ++ s2.1)
    (F3 : s3.2 = false → s2.2 = false ∧ s2.1 = textB b ++ s3.1)
    (F4 : s4.2 = false → s3.2 = false ∧ s3.1 = bytes n 4 ++ s4.1) :
    parseC c k a b n s1 s2 s3 s4 = ((0, [], [], ([], []), [], [], 0), 0, 3) ∨ ∃ m rest, vldB m = true ∧ c = bytesM m ++ rest := by
  unfold parseC
  have kw : bytes k 1 = [IntKind.wrap .u8 k] := by
    simp only [bytes]
    rw [byt_nat F0, IntKind.wrap_u8]; simp
  rw [kw] at F1
  have dec : ∀ (m : Mg) (s : Rs), finB c m s = ((0, [], [], ([], []), [], [], 0), 0, 3) ∨ (s.2 = false ∧ vldB m = true) := fun m s => by
    by_cases h : (finB c m s).2.2 = 0
    · exact .inr ⟨(fin_inv h).1, (fin_inv h).2.1⟩
    · exact .inl (fin_err h)
  cases e1 : eqi k 1
  case true =>
    rcases dec (k, a, b, ([], []), [], [], n) s4 with h | ⟨f1, f2⟩
    · exact .inl h
    · obtain ⟨g3, g3'⟩ := F4 f1
      obtain ⟨g2, g2'⟩ := F3 g3
      obtain ⟨g1, g1'⟩ := F2 g2
      have g0 := F1 g1
      rw [eqi_iff.1 e1] at g0 f2
      refine .inr ⟨_, s4.1, f2, ?_⟩
      show c = (IntKind.wrap .u8 1 :: (textB a ++ textB b ++ bytes n 4)) ++ s4.1
      rw [g0, g1', g2', g3']; simp
  case false =>
  cases e2 : eqi k 2
  case true =>
    rcases dec (k, a, [], ([], []), [], [], 0) s2 with h | ⟨f1, f2⟩
    · exact .inl h
    · obtain ⟨g1, g1'⟩ := F2 f1
      have g0 := F1 g1
      rw [eqi_iff.1 e2] at g0 f2
      refine .inr ⟨_, s2.1, f2, ?_⟩
      show c = (IntKind.wrap .u8 2 :: textB a) ++ s2.1
      rw [g0, g1']; simp
  case false =>
  cases e3 : eqi k 3
  case true =>
    rcases dec (k, [], [], (a, b), [], [], 0) s3 with h | ⟨f1, f2⟩
    · exact .inl h
    · obtain ⟨g2, g2'⟩ := F3 f1
      obtain ⟨g1, g1'⟩ := F2 g2
      have g0 := F1 g1
      rw [eqi_iff.1 e3] at g0 f2
      refine .inr ⟨_, s3.1, f2, ?_⟩
      show c = (IntKind.wrap .u8 3 :: (textB a ++ textB b)) ++ s3.1
      rw [g0, g1', g2']; simp
  case false =>
  cases e4 : eqi k 4
  case true =>
    rcases dec (k, [], [], ([], []), a, b, 0) s3 with h | ⟨f1, f2⟩
    · exact .inl h
    · obtain ⟨g2, g2'⟩ := F3 f1
      obtain ⟨g1, g1'⟩ := F2 g2
      have g0 := F1 g1
      rw [eqi_iff.1 e4] at g0 f2
      refine .inr ⟨_, s3.1, f2, ?_⟩
      show c = (IntKind.wrap .u8 4 :: (textB a ++ textB b)) ++ s3.1
      rw [g0, g1', g2']; simp
  case false =>
  cases e5 : eqi k 5
  case true =>
    rcases dec (k, [], [], ([], []), a, b, 0) s3 with h | ⟨f1, f2⟩
    · exact .inl h
    · obtain ⟨g2, g2'⟩ := F3 f1
      obtain ⟨g1, g1'⟩ := F2 g2
      have g0 := F1 g1
      rw [eqi_iff.1 e5] at g0 f2
      refine .inr ⟨_, s3.1, f2, ?_⟩
      show c = (IntKind.wrap .u8 5 :: (textB a ++ textB b)) ++ s3.1
      rw [g0, g1', g2']; simp
  case false =>
  cases e6 : eqi k 6
  case true =>
    rcases dec (k, [], [], (a, b), [], [], n) s4 with h | ⟨f1, f2⟩
    · exact .inl h
    · obtain ⟨g3, g3'⟩ := F4 f1
      obtain ⟨g2, g2'⟩ := F3 g3
      obtain ⟨g1, g1'⟩ := F2 g2
      have g0 := F1 g1
      rw [eqi_iff.1 e6] at g0 f2
      refine .inr ⟨_, s4.1, f2, ?_⟩
      show c = (IntKind.wrap .u8 6 :: (textB a ++ textB b ++ bytes n 4)) ++ s4.1
      rw [g0, g1', g2', g3']; simp
  case false =>
    rcases dec (k, [], [], ([], []), [], [], 0) s1 with h | ⟨f1, f2⟩
    · exact .inl h
    · have : vldB (k, [], [], ([], []), [], [], 0) = false := by
        simp only [vldB, e1, e2, e3, e4, e5, e6, Bool.or_self, cond_false]
      rw [this] at f2; cases f2

theorem parse_cases {c : List Int} (hb : Byts c) : parseB c = ((0, [], [], ([], []), [], [], 0), 0, 3) ∨ ∃ m rest, vldB m = true ∧ c = bytesM m ++ rest ∧ parseB c = (m, ((bytesM m).length : Int), 0) := by
  suffices hh : parseB c = ((0, [], [], ([], []), [], [], 0), 0, 3) ∨ ∃ m rest, vldB m = true ∧ c = bytesM m ++ rest by
    rcases hh with h | ⟨m, rest, h1, h2⟩
    · exact .inl h
    · exact .inr ⟨m, rest, h1, h2, by rw [h2]; exact parse_bytes h1 rest⟩
  have b1 : Byts (nm' 1 (c, false)).2.1 := nm_byts hb
  have b2 := tx_byts b1
  have b3 := tx_byts b2
  have F4 := fun h => nm_inv 4 b3 h
  simp only [show ((4 : Nat) : Int) = 4 from rfl] at F4
  exact parseC_cases (fun h => (nm_inv 1 (s := (c, false)) hb h).2) (nm_pos 1 (s := (c, false)) hb) (fun h => tx_inv b1 h) (fun h => tx_inv b2 h) F4

/-! ## MsgBytes -/
theorem bytesV_good {m : Mg} (hm : Good m) : bytesV m = bytesM m := by unfold bytesV; rw [good_vld hm]; rfl

theorem bytes_small {m : Mg} (hm : Good m) : (bytesM m).length ≤ 60 := by
  obtain ⟨l1, l2, l3, l4⟩ := good_lens hm
  have ls : m.2.2.2.1.1.length ≤ 8 ∧ m.2.2.2.1.2.length ≤ 8 := by
    cases hm with
    | drop s hs => simp only [spanOk, Bool.and_eq_true, decide_eq_true_eq] at hs; exact ⟨hs.1.2, hs.2⟩
    | stamp s n hs => simp only [spanOk, Bool.and_eq_true, decide_eq_true_eq] at hs; exact ⟨hs.1.2, hs.2⟩
    | put k v n => simp
    | del k => simp
    | move e => simp
    | clone e => simp
  unfold bytesM bodyB
  cases eqi m.1 1 <;> cases eqi m.1 2 <;> cases eqi m.1 3 <;> cases eqi m.1 6 <;> simp only [cond_true, cond_false, List.length_cons, List.length_append, textB_len, bytes_len] <;> omega

theorem bytes_l1 {up : Bool} {m : Mg} (hm : Good m) (a0 : Int) (a1 a2 a3 a4 a5 a6 : B) (a7 c0 : Int) (c1 c2 c3 c4 c5 c6 : B) (c7 : Int) : ∀ (r n i : Nat), r < n → i + r = (bytesM m).length →
    law05_MsgBytes_l1 NN n up (bytesM m) (i : Int) a0 a1 a2 a3 a4 a5 a6 a7 c0 c1 c2 c3 c4 c5 c6 c7 = some (.inr ((up, ((), ((), bytesM m))), ((a0, (a1, (a2, (a3, (a4, (a5, (a6, a7))))))), ((c0, (c1, (c2, (c3, (c4, (c5, (c6, c7))))))), ()))))
  | _, 0, _, h, _ => absurd h (Nat.not_lt_zero _)
  | 0, n + 1, i, _, hi => by
    have e : decide ((i : Int) < ((bytesM m).length : Int)) = false := by simp; omega
    rw [law05_MsgBytes_l1_succ]
    simp only [law05_MsgBytes_l1_step, e, cond_false]
  | r + 1, n + 1, i, hn, hi => by
    have hs := bytes_small hm
    have e : decide ((i : Int) < ((bytesM m).length : Int)) = true := by simp; omega
    have ec : cut2 (bytesM m) (0 : Int) (i : Int) = (bytesM m).take i := by simp [cut2]
    have hp := Parse_eq ((byts_m m).take i) (by simp; omega)
    have he : parseB ((bytesM m).take i) = ((0, [], [], ([], []), [], [], 0), 0, 3) := by
      rcases parse_cases ((byts_m m).take i) with h | ⟨m', rest, h1, h2, h3⟩
      · exact h
      · exfalso
        have p1 := parse_bytes (good_vld hm) []
        have hb : bytesM m ++ [] = bytesM m' ++ (rest ++ (bytesM m).drop i) := by
          rw [List.append_nil, ← List.append_assoc, ← h2, List.take_append_drop]
        have p2 := parse_bytes h1 (rest ++ (bytesM m).drop i)
        rw [hb, p2] at p1
        have hl : ((bytesM m').length : Int) = ((bytesM m).length : Int) := congrArg (fun x => x.2.1) p1
        have := congrArg List.length h2
        simp at this
        omega
    rw [law05_MsgBytes_l1_succ]
    simp only [law05_MsgBytes_l1_step, e, cond_true, ec, hp, he]
    rw [gd_t (by simp; omega)]
    have z1 : eqi (3 : Int) 3 = true := rfl
    have z2 : eqi (0 : Int) 0 = true := rfl
    simp only [z1, z2, Bool.not_true, cond_false]
    rw [w64 (by omega) (by omega)]
    exact bytes_l1 hm a0 a1 a2 a3 a4 a5 a6 a7 c0 c1 c2 c3 c4 c5 c6 c7 r n (i + 1) (by omega) (by omega)

def eqM (a b : Mg) : Bool := eqi a.1 b.1 && (eqs a.2.1 b.2.1 && (eqs a.2.2.1 b.2.2.1 && (eqs a.2.2.2.1.1 b.2.2.2.1.1 && (eqs a.2.2.2.1.2 b.2.2.2.1.2 && (eqs a.2.2.2.2.1 b.2.2.2.2.1 && (eqs a.2.2.2.2.2.1 b.2.2.2.2.2.1 && (eqi a.2.2.2.2.2.2 b.2.2.2.2.2.2 && true)))))))
theorem eqM_iff {a b : Mg} : eqM a b = true ↔ a = b := by
  obtain ⟨a0, a1, a2, ⟨a3, a4⟩, a5, a6, a7⟩ := a
  obtain ⟨b0, b1, b2, ⟨b3, b4⟩, b5, b6, b7⟩ := b
  simp only [eqM, Bool.and_eq_true, eqi_iff, eqs_iff, Prod.mk.injEq, and_true]
  constructor
  · rintro ⟨h0, h1, h2, h3, h4, h5, h6, h7⟩; exact ⟨h0, h1, h2, ⟨h3, h4⟩, h5, h6, h7⟩
  · rintro ⟨h0, h1, h2, ⟨h3, h4⟩, h5, h6, h7⟩; exact ⟨h0, h1, h2, h3, h4, h5, h6, h7⟩

theorem bytes_eqM {m o : Mg} (hm : Good m) (ho : Good o) : eqs (bytesU (bytesM m)) (bytesU (bytesM o)) = eqM m o := by
  cases h : eqM m o
  · refine eqs_ne fun e => ?_
    have := U_inj (byts_m m) (byts_m o) e
    have p1 := parse_bytes (good_vld hm) []
    have p2 := parse_bytes (good_vld ho) []
    rw [this, p2] at p1
    have hm' : o = m := congrArg (fun x => x.1) p1
    rw [eqM_iff.2 hm'.symm] at h; cases h
  · rw [eqM_iff.1 h, eqs_self]

theorem plainBytes (y : V_a2_ref05_Raw) (more : List Int) (hy : okT T_a2_ref05_Raw y) (hx : okT (.list (.int .u8)) more) : law05_MsgBytes NN y more = some true := by
  obtain ⟨m, g1, g2⟩ := made_ok hy.1
  obtain ⟨o, g3, g4⟩ := made_ok hy.2
  have g1' : ref05_Made NN y.1 = some m := g1
  have g3' : ref05_Made NN y.2 = some o := g3
  have hmore : Byts more := by
    intro x hx'
    obtain ⟨i, hi, rfl⟩ := List.getElem_of_mem hx'
    exact u8_of_wf (hx.2 i _ (List.getElem?_eq_getElem hi))
  have hs := bytes_small g2
  simp only [law05_MsgBytes, sanity5]
  cases e : decide ((40 : Int) < (more.length : Int))
  · have e := of_decide_eq_false e
    have hp := Parse_eq ((byts_m m).append hmore) (by simp; omega)
    rw [parse_bytes (good_vld g2)] at hp
    have hE : ∀ a b : Mg, (eqi a.1 b.1 && (eqs a.2.1 b.2.1 && (eqs a.2.2.1 b.2.2.1 && (eqs a.2.2.2.1.1 b.2.2.2.1.1 && (eqs a.2.2.2.1.2 b.2.2.2.1.2 && (eqs a.2.2.2.2.1 b.2.2.2.2.1 && (eqs a.2.2.2.2.2.1 b.2.2.2.2.2.1 && (eqi a.2.2.2.2.2.2 b.2.2.2.2.2.2 && true)))))))) = eqM a b := fun _ _ => rfl
    have l1 := bytes_l1 (up := true) g2 m.1 m.2.1 m.2.2.1 m.2.2.2.1.1 m.2.2.2.1.2 m.2.2.2.2.1 m.2.2.2.2.2.1 m.2.2.2.2.2.2 o.1 o.2.1 o.2.2.1 o.2.2.2.1.1 o.2.2.2.1.2 o.2.2.2.2.1 o.2.2.2.2.2.1 o.2.2.2.2.2.2 (bytesM m).length NN 0 (by simp only [NN]; omega) (by omega)
    have hz : ((0 : Nat) : Int) = 0 := rfl
    rw [hz] at l1
    have eo : (o.1, o.2.1, o.2.2.1, (o.2.2.2.1.1, o.2.2.2.1.2), o.2.2.2.2.1, o.2.2.2.2.2.1, o.2.2.2.2.2.2) = o := rfl
    have p0 : law05_MsgBytes_p0 NN true m.1 m.2.1 m.2.2.1 m.2.2.2.1.1 m.2.2.2.1.2 m.2.2.2.2.1 m.2.2.2.2.2.1 m.2.2.2.2.2.2 o.1 o.2.1 o.2.2.1 o.2.2.2.1.1 o.2.2.2.1.2 o.2.2.2.2.1 o.2.2.2.2.2.1 o.2.2.2.2.2.2 (bytesM m) = some (true, ()) := by
      have hb := Bytes_eq o
      rw [bytesV_good g4] at hb
      simp only [law05_MsgBytes_p0, l1, eo, hb, ref05_SameBytes, bytes_eqM g2 g4]
      have := hE m o
      simp only [this, eqb_self, cond_true]
    have hb := Bytes_eq m
    rw [bytesV_good g2] at hb
    simp only [cond_false, g1', g3', hb, List.nil_append]
    rw [gd_t (fits_p (by omega) (by omega)), gd_t (fits_p (by omega) (by omega)), hp]
    have z0 : eqi (0 : Int) 0 = true := rfl
    have z1 : decide ((200 : Int) < ((bytesM m).length : Int)) = false := by simp; omega
    simp only [z0, Bool.not_true, cond_false]
    rw [hE m m, eqM_iff.2 rfl, eqi_self, z1, p0]
    rfl
  · rfl
end Ds
