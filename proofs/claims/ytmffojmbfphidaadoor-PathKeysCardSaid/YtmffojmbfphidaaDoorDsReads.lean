/- Places, bodies, what is read from keys, and the plain laws of PathOrders and PathKeys. -/
import Derived.Test.YtmffojmbfphidaaDoorDsKeys
import Derived.Test.YtmffojmbfphidaaDoorDsBelow
import Derived.Laws.BitsLemmas
set_option linter.all false
namespace Ds
open Go Go.Dv
set_option maxRecDepth 100000
set_option linter.unusedVariables false

theorem u16_of_wf {n : Int} (h : (Lit.int .u16 n).wf = true) : 0 ≤ n ∧ n < 65536 := by
  simp [Lit.wf, IntKind.min, IntKind.max, IntKind.signed, IntKind.bits] at h
  omega

theorem blk_nat {k : Nat} (h : k ≤ 60000) : blk (k : Int) = [2, UInt8.ofNat (k / 256), UInt8.ofNat (k % 256)] := by
  have e : (2 : Int) ^ min (Int.toNat (8 : Int)) (IntKind.bits .i64) = 256 := by decide
  have f : Int.fdiv (k : Int) 256 = ((k / 256 : Nat) : Int) := by rw [Int.fdiv_eq_ediv_of_nonneg _ (by omega)]; omega
  have w1 : IntKind.wrap .u8 ((k / 256 : Nat) : Int) = ((k / 256 : Nat) : Int) := by rw [IntKind.wrap_u8]; omega
  have w2 : IntKind.wrap .u8 (k : Int) = ((k % 256 : Nat) : Int) := by rw [IntKind.wrap_u8]; omega
  unfold blk
  rw [e, f, w1, w2]
  rfl
theorem u8_lt {a b : Nat} (ha : a < 256) (hb : b < 256) : decide (UInt8.ofNat a < UInt8.ofNat b) = decide (a < b) ∧ (UInt8.ofNat a == UInt8.ofNat b) = decide (a = b) := by
  have ea : (UInt8.ofNat a).toNat = a := by simp; omega
  have eb : (UInt8.ofNat b).toNat = b := by simp; omega
  constructor
  · rw [Bool.eq_iff_iff]; simp only [decide_eq_true_eq, UInt8.lt_iff_toNat_lt, ea, eb]
  · rw [Bool.eq_iff_iff]; simp only [beq_iff_eq, decide_eq_true_eq, ← UInt8.toNat_inj, ea, eb]
theorem blk_lt {m n : Int} (h0 : 0 ≤ m) (h1 : m ≤ 60000) (h2 : 0 ≤ n) (h3 : n ≤ 60000) : lts (blk m) (blk n) = decide (m < n) := by
  obtain ⟨a, rfl⟩ := Int.eq_ofNat_of_zero_le h0
  obtain ⟨b, rfl⟩ := Int.eq_ofNat_of_zero_le h2
  rw [blk_nat (by omega), blk_nat (by omega)]
  obtain ⟨p1, p2⟩ := u8_lt (show a / 256 < 256 by omega) (show b / 256 < 256 by omega)
  obtain ⟨q1, q2⟩ := u8_lt (show a % 256 < 256 by omega) (show b % 256 < 256 by omega)
  have d2 : decide ((2 : UInt8) < 2) = false := by decide
  rw [lts_cons, lts_cons, lts_cons, p1, p2, q1, d2, lts_nil]
  rw [Bool.eq_iff_iff]
  simp only [beq_self_eq_true, Bool.true_and, Bool.false_or, Bool.and_false, Bool.or_false, Bool.or_eq_true, Bool.and_eq_true, decide_eq_true_eq]
  omega

/-- what stands behind a path in a key -/
def restB (t n : Int) (m : B) : B := bif eqi t 1 then [1] else bif eqi t 2 then blk n else [3] ++ m
theorem rest_cons (t n : Int) (m : B) : ∃ c r, restB t n m = c :: r ∧ c.toNat ≤ 3 := by
  unfold restB
  cases eqi t 1
  · cases eqi t 2
    · exact ⟨3, m, rfl, by decide⟩
    · exact ⟨_, _, rfl, by show (UInt8.ofNat (Int.toNat 2)).toNat ≤ 3; decide⟩
  · exact ⟨1, [], rfl, by decide⟩

/-- a made place with a path of names -/
def plN (t N : Int) : Int := bif eqi t 2 then Int.tmod N 60001 else 0
def plM (t N : Int) : B := bif eqi t 3 then callN (IntKind.wrap .u8 (Int.tmod N 8)) else []
theorem MadePlace_eq {L : List Int} {t N : Int} (hL : U8s L) (h0 : 0 ≤ t) (h1 : t < 3) (h2 : 0 ≤ N) (h3 : N < 65536) :
    ref01_MadePlace NN (L, t, N) = some (madeP L, 1 + t, plN (1 + t) N, plM (1 + t) N) := by
  have t4 : Int.tmod t 4 = t := by rw [Int.tmod_eq_emod_of_nonneg h0]; omega
  have w1 : IntKind.wrap .i64 t = t := w64 (by omega) (by omega)
  have w2 : IntKind.wrap .i64 (1 + t) = 1 + t := w64 (by omega) (by omega)
  have w3 : IntKind.wrap .i64 N = N := w64 (by omega) (by omega)
  have d : decide ((64 : Int) ≤ t) = false := by simp; omega
  have m8 := Int.tmod_nonneg 8 h2
  have u : 0 ≤ IntKind.wrap .u8 (Int.tmod N 8) := by rw [IntKind.wrap_u8]; omega
  simp only [ref01_MadePlace, Made_eq hL, t4, w1, w2, d, cond_false, ref01_MadePlace_p0, w3, Call_eq u, plN, plM]
  cases e2 : eqi (1 + t) 2
  · cases e3 : eqi (1 + t) 3 <;> rfl
  · have e3 : eqi (1 + t) 3 = false := by rw [eqi_iff.1 e2]; rfl
    simp only [e3, cond_true, cond_false]

theorem keyR_made {p : B} {t N : Int} (h0 : 0 ≤ t) (h1 : t < 3) (h2 : 0 ≤ N) : keyR p (1 + t) (plN (1 + t) N) (plM (1 + t) N) = some (p ++ restB (1 + t) (plN (1 + t) N) (plM (1 + t) N)) := by
  have m8 := Int.tmod_nonneg 8 h2
  have n0 := Int.tmod_nonneg 60001 h2
  have n1 : Int.tmod N 60001 < 60001 := Int.tmod_lt_of_pos _ (by omega)
  have u : 0 ≤ IntKind.wrap .u8 (Int.tmod N 8) := by rw [IntKind.wrap_u8]; omega
  have nm := callN_name u
  have : t = 0 ∨ t = 1 ∨ t = 2 := by omega
  rcases this with rfl | rfl | rfl
  · rfl
  · have a : decide (0 ≤ Int.tmod N 60001) = true := decide_eq_true n0
    have b : decide (Int.tmod N 60001 ≤ 60000) = true := decide_eq_true (by omega)
    have e1 : eqi ((1 : Int) + 1) 1 = false := rfl
    have e2 : eqi ((1 : Int) + 1) 2 = true := rfl
    have e3 : eqi ((1 : Int) + 1) 3 = false := rfl
    simp only [keyR, restB, plN, plM, e1, e2, e3, cond_true, cond_false, eqs_self, a, b, Bool.and_self]
  · have e1 : eqi ((1 : Int) + 2) 1 = false := rfl
    have e2 : eqi ((1 : Int) + 2) 2 = false := rfl
    have e3 : eqi ((1 : Int) + 2) 3 = true := rfl
    simp only [keyR, restB, plN, plM, e1, e2, e3, cond_true, cond_false, eqi_self, nm, Bool.and_self, List.append_assoc]

/-! ## prefixes of keys -/
def big (p : B) : Prop := ∀ b ∈ p, 33 ≤ b.toNat
theorem join_big {l : List B} (h : ∀ n ∈ l, nameB n = true) : big (joinP l) := by
  induction l with
  | nil => intro b hb; simp [joinP] at hb
  | cons n l ih =>
    intro b hb
    rw [joinP_cons] at hb
    rcases List.mem_append.1 hb with hb | hb
    · have := List.all_eq_true.1 (name_all (h n (by simp))) b hb
      simp only [okc, Bool.and_eq_true, decide_eq_true_eq] at this
      exact this.1
    · rcases List.mem_cons.1 hb with rfl | hb
      · decide
      · exact ih (fun m hm => h m (by simp [hm])) b hb
theorem pre_key {p q r : B} {c : UInt8} (hp : big p) (hc : c.toNat ≤ 3) : p.isPrefixOf (q ++ c :: r) = p.isPrefixOf q := by
  rw [Bool.eq_iff_iff, List.isPrefixOf_iff_prefix, List.isPrefixOf_iff_prefix]
  constructor
  · intro h
    by_cases hl : p.length ≤ q.length
    · exact List.prefix_of_prefix_length_le h (List.prefix_append _ _) hl
    · exfalso
      obtain ⟨t, ht⟩ := h
      have h1 : (p ++ t)[q.length]? = some c := by rw [ht]; simp
      rw [List.getElem?_append_left (by omega), List.getElem?_eq_getElem (by omega)] at h1
      have h2 : p[q.length] = c := Option.some.inj h1
      have := hp _ (List.getElem_mem (show q.length < p.length by omega))
      rw [h2] at this
      omega
  · intro h; exact h.trans (List.prefix_append _ _)
theorem pre_app (p r : B) : p.isPrefixOf (p ++ r) = true := List.isPrefixOf_iff_prefix.2 (List.prefix_append _ _)

theorem orders_p4 {P : B} {L : List Int} {t N : Int} (hP : big P) (hL : U8s L) (h0 : 0 ≤ t) (h2 : 0 ≤ N) (h3 : N < 65536) : law01_PathOrders_p4 NN true P L t N = some (true, ()) := by
  have t0 := Int.tmod_nonneg 3 h0
  have t1 : Int.tmod t 3 < 3 := Int.tmod_lt_of_pos _ (by omega)
  have hl := madeP_len hL
  have hm : (plM (1 + Int.tmod t 3) N).length ≤ 12 := by
    unfold plM
    cases eqi (1 + Int.tmod t 3) 3
    · simp
    · have m8 := Int.tmod_nonneg 8 h2
      have u : 0 ≤ IntKind.wrap .u8 (Int.tmod N 8) := by rw [IntKind.wrap_u8]; omega
      exact (name_len (callN_name u)).2
  simp only [law01_PathOrders_p4, MadePlace_eq hL t0 t1 h2 h3]
  rw [Key_valid (madeP_valid hL) (by omega) (by omega), keyR_made t0 t1 h2]
  obtain ⟨c, r, e, hc⟩ := rest_cons (1 + Int.tmod t 3) (plN (1 + Int.tmod t 3) N) (plM (1 + Int.tmod t 3) N)
  have hr : (restB (1 + Int.tmod t 3) (plN (1 + Int.tmod t 3) N) (plM (1 + Int.tmod t 3) N)).length ≤ 13 := by
    unfold restB
    cases eqi (1 + Int.tmod t 3) 1
    · cases eqi (1 + Int.tmod t 3) 2
      · simp; omega
      · simp [blk_len]
    · simp
  have U := fun (a b : B) (h : a.length < 1000) => Under_eq a b (by omega)
  have z : eqi (0 : Int) 0 = true := rfl
  simp only [resR, z, cond_true, U (madeP L ++ restB (1 + Int.tmod t 3) (plN (1 + Int.tmod t 3) N) (plM (1 + Int.tmod t 3) N)) P (by simp; omega), U (madeP L) P (by omega)]
  rw [e, pre_key hP hc]
  simp [eqb]

theorem orders_p2 {P : B} {L : List Int} {t N : Int} (hP : big P) (hL : U8s L) (h0 : 0 ≤ t) (h2 : 0 ≤ N) (h3 : N < 65536) (x1 x2 x3 x4 : B) (l1 : (P ++ x1).length < 1000) (l2 : (P ++ x2).length < 1000) (l3 : (P ++ x3).length < 1000) (l4 : (P ++ x4).length < 1000) :
    law01_PathOrders_p2 NN true P (P ++ x1) (P ++ x2) (P ++ x3) (P ++ x4) L t N = some (true, ()) := by
  have U := fun (x : B) (h : (P ++ x).length < 1000) => Under_eq (P ++ x) P (by omega)
  simp only [law01_PathOrders_p2, U x1 l1, U x2 l2, U x3 l3, U x4 l4, pre_app, Bool.not_true, cond_false, orders_p4 hP hL h0 h2 h3]

theorem orders_p0 {P : B} {L : List Int} {t N m n : Int} (hP : big P) (hL : U8s L) (h0 : 0 ≤ t) (h2 : 0 ≤ N) (h3 : N < 65536) (m0 : 0 ≤ m) (m1 : m ≤ 60000) (n0 : 0 ≤ n) (n1 : n ≤ 60000) (w1 w2 w3 w4 : Int)
    (u3 : 0 ≤ IntKind.wrap .u8 w3) (u4 : 0 ≤ IntKind.wrap .u8 w4) (nm r : B) (hl : P.length + nm.length + r.length < 500) (hn : nm = [] ∨ ∃ c s, nm = c :: s ∧ 33 ≤ c.toNat) :
    law01_PathOrders_p0 NN true P m n (P ++ [1]) (P ++ blk m) (P ++ blk n) (P ++ ([3] ++ callN (IntKind.wrap .u8 w3))) (P ++ ([3] ++ callN (IntKind.wrap .u8 w4))) nm (P ++ (nm ++ r)) L t N w1 w2 w3 w4 = some (true, ()) := by
  have c3 := name_len (callN_name u3)
  have c4 := name_len (callN_name u4)
  generalize ha : callN (IntKind.wrap .u8 w3) = a at *
  generalize hb : callN (IntKind.wrap .u8 w4) = b at *
  have k3 : ref01_Call NN (IntKind.wrap .u8 w3) = some a := by rw [Call_eq u3, ha]
  have k4 : ref01_Call NN (IntKind.wrap .u8 w4) = some b := by rw [Call_eq u4, hb]
  have b2 : ∀ k : Int, ∃ s, blk k = 2 :: s := fun k => ⟨_, rfl⟩
  have A1 : lts (P ++ [1]) (P ++ blk m) = true := by
    obtain ⟨s, e⟩ := b2 m
    rw [lts_app, e, lts_cons]; rfl
  have A2 : lts (P ++ blk m) (P ++ ([3] ++ a)) = true := by
    obtain ⟨s, e⟩ := b2 m
    rw [lts_app, e]
    exact (lts_cons 2 3 s a).trans (by rfl)
  have A3 : lts (P ++ blk n) (P ++ ([3] ++ b)) = true := by
    obtain ⟨s, e⟩ := b2 n
    rw [lts_app, e]
    exact (lts_cons 2 3 s b).trans (by rfl)
  have A4 : lts (P ++ blk m) (P ++ blk n) = decide (m < n) := by rw [lts_app, blk_lt m0 m1 n0 n1]
  have A5 : lts (P ++ ([3] ++ a)) (P ++ ([3] ++ b)) = lts a b := by
    rw [lts_app, lts_app]
  have p2 := orders_p2 (t := t) (N := N) hP hL h0 h2 h3 [1] (blk m) ([3] ++ b) (nm ++ r) (by simp; omega) (by simp [blk_len]; omega) (by simp; omega) (by simp; omega)
  simp only [law01_PathOrders_p0, A1, A2, A3, A4, A5, k3, k4, cond_true, Bool.not_true, cond_false, eqb, beq_self_eq_true]
  rcases hn with rfl | ⟨c, s, rfl, hc⟩
  · simp only [eqs_self, Bool.not_true, cond_false, law01_PathOrders_p3, p2]
  · have B1 : ∀ z : B, lts (P ++ ([3] ++ z)) (P ++ (c :: s ++ r)) = true := by
      intro z
      rw [lts_app]
      refine (lts_cons 3 c z (s ++ r)).trans ?_
      have : decide ((3 : UInt8) < c) = true := by
        rw [decide_eq_true_eq, UInt8.lt_iff_toNat_lt]
        have : (3 : UInt8).toNat = 3 := rfl
        omega
      rw [this]; rfl
    have ne : eqs (c :: s) [] = false := eqs_ne (by simp)
    simp only [ne, Bool.not_false, cond_true, B1, Bool.not_true, law01_PathOrders_p3, cond_false, p2]

theorem plainOrders (l : List Int) (x : V_ref01_Raw) (w : V_a4_uint16) (hl : okSh (.list (.int .u8)) l) (hx : okSh (.val T_ref01_Raw) x) (hw : okSh (.val T_a4_uint16) w) : law01_PathOrders NN l x w = some true := by
  have hu := u8s_of hl
  have hL := u8s_of hx.1
  have ht := u8_of_wf hx.2.1
  have hN := u16_of_wf hx.2.2
  have w1 := u16_of_wf hw.1
  have w2 := u16_of_wf hw.2.1
  have w3 := u16_of_wf hw.2.2.1
  have w4 := u16_of_wf hw.2.2.2
  have mn : ∀ (c : Int) (xs : List Int), 0 ≤ c → ∃ i, (bif decide (c < (xs.length : Int)) then c else (xs.length : Int)) = i ∧ 0 ≤ i ∧ i ≤ xs.length := by
    intro c xs hc
    cases q : decide (c < (xs.length : Int))
    · exact ⟨(xs.length : Int), rfl, by omega, by omega⟩
    · have := of_decide_eq_true q
      exact ⟨c, rfl, by omega, by omega⟩
  obtain ⟨i, ei, i0, i1⟩ := mn 3 l (by omega)
  obtain ⟨j, ej, j0, j1⟩ := mn 1 x.1 (by omega)
  have hci : U8s (cut2 l (0 : Int) i) := fun y hy => hu y (List.mem_of_mem_drop (List.mem_of_mem_take hy))
  have hcj : U8s (cut2 x.1 (0 : Int) j) := fun y hy => hL y (List.mem_of_mem_drop (List.mem_of_mem_take hy))
  have m60 : ∀ k : Int, 0 ≤ k → k < 65536 → 0 ≤ Int.tmod (IntKind.wrap .i64 k) 60001 ∧ Int.tmod (IntKind.wrap .i64 k) 60001 ≤ 60000 := by
    intro k h0 h1
    rw [w64 (n := k) (by omega) (by omega)]
    have := Int.tmod_lt_of_pos k (b := 60001) (by omega)
    exact ⟨Int.tmod_nonneg _ h0, by omega⟩
  obtain ⟨a0, a1⟩ := m60 w.1 w1.1 w1.2
  obtain ⟨b0, b1⟩ := m60 w.2.1 w2.1 w2.2
  have u3 : 0 ≤ IntKind.wrap .u8 w.2.2.1 := by rw [IntKind.wrap_u8]; omega
  have u4 : 0 ≤ IntKind.wrap .u8 w.2.2.2 := by rw [IntKind.wrap_u8]; omega
  have t0 := Int.tmod_nonneg 3 ht.1
  have t1 : Int.tmod x.2.1 3 < 3 := Int.tmod_lt_of_pos _ (by omega)
  have hP := madeP_valid hci
  have lP := madeP_len hci
  have bP : big (madeP (cut2 l (0 : Int) i)) := join_big (madeN_name hci)
  have lQ := madeP_len hcj
  have n3 := callN_name u3
  have n4 := callN_name u4
  have K1 : path_Key NN (madeP (cut2 l (0 : Int) i), 1, 0, []) = some (madeP (cut2 l (0 : Int) i) ++ [1], 0) := by
    rw [Key_valid hP (by omega) (by simp)]; rfl
  have K2 : ∀ k : Int, 0 ≤ k → k ≤ 60000 → path_Key NN (madeP (cut2 l (0 : Int) i), 2, k, []) = some (madeP (cut2 l (0 : Int) i) ++ blk k, 0) := by
    intro k h0 h1
    rw [Key_valid hP (by omega) (by simp)]
    have e1 : eqi (2 : Int) 1 = false := rfl
    have e2 : eqi (2 : Int) 2 = true := rfl
    have d0 : decide (0 ≤ k) = true := decide_eq_true h0
    have d1 : decide (k ≤ 60000) = true := decide_eq_true h1
    simp only [keyR, e1, e2, cond_false, cond_true, eqs_self, d0, d1, Bool.and_self, resR]
  have K3 : ∀ c : B, nameB c = true → path_Key NN (madeP (cut2 l (0 : Int) i), 3, 0, c) = some (madeP (cut2 l (0 : Int) i) ++ ([3] ++ c), 0) := by
    intro c hc
    have := name_len hc
    rw [Key_valid hP (by omega) (by omega)]
    have e1 : eqi (3 : Int) 1 = false := rfl
    have e2 : eqi (3 : Int) 2 = false := rfl
    have e3 : eqi (3 : Int) 3 = true := rfl
    simp only [keyR, e1, e2, e3, cond_false, cond_true, eqi_self, hc, Bool.and_self, resR, List.append_assoc]
  have hj : madeP (cut2 l (0 : Int) i) ++ madeP (cut2 x.1 (0 : Int) j) = joinP (madeN (cut2 l (0 : Int) i) ++ madeN (cut2 x.1 (0 : Int) j)) := by rw [joinP_append]; rfl
  have vK : validB (madeP (cut2 l (0 : Int) i) ++ madeP (cut2 x.1 (0 : Int) j)) = true := by
    rw [hj]
    exact valid_join fun m hm => by
      rcases List.mem_append.1 hm with hm | hm
      · exact madeN_name hci m hm
      · exact madeN_name hcj m hm
  have hm12 : (plM (1 + Int.tmod x.2.1 3) x.2.2).length ≤ 12 := by
    unfold plM
    cases eqi (1 + Int.tmod x.2.1 3) 3
    · simp
    · have m8 := Int.tmod_nonneg 8 hN.1
      have u : 0 ≤ IntKind.wrap .u8 (Int.tmod x.2.2 8) := by rw [IntKind.wrap_u8]; omega
      exact (name_len (callN_name u)).2
  have hr : (restB (1 + Int.tmod x.2.1 3) (plN (1 + Int.tmod x.2.1 3) x.2.2) (plM (1 + Int.tmod x.2.1 3) x.2.2)).length ≤ 13 := by
    unfold restB
    cases eqi (1 + Int.tmod x.2.1 3) 1
    · cases eqi (1 + Int.tmod x.2.1 3) 2
      · simp; omega
      · simp [blk_len]
    · simp
  have KK : path_Key NN (madeP (cut2 l (0 : Int) i) ++ madeP (cut2 x.1 (0 : Int) j), 1 + Int.tmod x.2.1 3, plN (1 + Int.tmod x.2.1 3) x.2.2, plM (1 + Int.tmod x.2.1 3) x.2.2) = some (madeP (cut2 l (0 : Int) i) ++ (madeP (cut2 x.1 (0 : Int) j) ++ restB (1 + Int.tmod x.2.1 3) (plN (1 + Int.tmod x.2.1 3) x.2.2) (plM (1 + Int.tmod x.2.1 3) x.2.2)), 0) := by
    rw [Key_valid vK (by simp; omega) (by omega), keyR_made t0 t1 hN.1, List.append_assoc]; rfl
  have hnm : madeP (cut2 x.1 (0 : Int) j) = [] ∨ ∃ c s, madeP (cut2 x.1 (0 : Int) j) = c :: s ∧ 33 ≤ c.toNat := by
    have hb := join_big (madeN_name hcj)
    cases h : madeP (cut2 x.1 (0 : Int) j) with
    | nil => exact .inl rfl
    | cons c s => exact .inr ⟨c, s, rfl, hb c (by show c ∈ madeP (cut2 x.1 (0 : Int) j); rw [h]; simp)⟩
  have p0 := orders_p0 (t := x.2.1) (N := x.2.2) bP hL ht.1 hN.1 hN.2 a0 a1 b0 b1 w.1 w.2.1 w.2.2.1 w.2.2.2 u3 u4 (madeP (cut2 x.1 (0 : Int) j)) (restB (1 + Int.tmod x.2.1 3) (plN (1 + Int.tmod x.2.1 3) x.2.2) (plM (1 + Int.tmod x.2.1 3) x.2.2)) (by omega) hnm
  have z : eqi (0 : Int) 0 = true := rfl
  simp only [law01_PathOrders, sanity1, ei, ej, Made_eq hci, K1, K2 _ a0 a1, K2 _ b0 b1, Call_eq u3, Call_eq u4, K3 _ n3, K3 _ n4, MadePlace_eq hcj t0 t1 hN.1 hN.2]
  rw [gd_t (by simp; omega), gd_t (by simp; omega), gd_p (by simp only [maxS]; omega)]
  simp only [KK, z, Bool.not_true, cond_false, law01_PathOrders_p1, p0]

theorem dg_mem (x : Int) (h0 : 0 ≤ x) (h1 : x < 16) : dg x ∈ digs := by
  unfold dg
  have hl : x.toNat < digs.length := by simp [digs]; omega
  rw [List.getD_eq_getElem?_getD, List.getElem?_eq_getElem hl]
  exact List.getElem_mem hl
theorem hexN_mem (n : Int) : ∀ k, ∀ b ∈ hexN k n, b ∈ digs
  | 0, b, h => by simp [hexN] at h
  | k + 1, b, h => by
    simp only [hexN, List.mem_cons] at h
    rcases h with rfl | h
    · exact dg_mem _ (Int.emod_nonneg _ (by omega)) (Int.emod_lt_of_pos _ (by omega))
    · exact hexN_mem n k b h
theorem trim_all {l cs : B} (h : ∀ b ∈ l, b ∈ cs) : Lib.trimS l cs = [] := by
  have d : ∀ l : B, (∀ b ∈ l, b ∈ cs) → l.dropWhile (cs.contains ·) = [] := by
    intro l hl
    induction l with
    | nil => rfl
    | cons b l ih =>
      have : cs.contains b = true := by simpa using hl b (by simp)
      simp only [List.dropWhile_cons, this, if_true]
      exact ih fun c hc => hl c (by simp [hc])
  unfold Lib.trimS Lib.trimLeftS Lib.trimRightS
  rw [d l.reverse fun b hb => h b (by simpa using hb)]
  rfl
theorem dg_le : ((List.range 8).all fun (a : Nat) => decide ((dg (a : Int)).toNat ≤ 55)) = true := by decide +kernel

theorem isBody_body {n : Int} (h0 : 0 ≤ n) (h1 : n ≤ 2147483647) : path_isBody NN (bodyB n) = some true := by
  have p7 : (16 : Int) ^ 7 = 268435456 := by decide
  have q0 : 0 ≤ n / 16 ^ 7 := Int.ediv_nonneg h0 (by omega)
  have q1 : n / 16 ^ 7 % 16 < 8 := by rw [p7]; omega
  have q2 : 0 ≤ n / 16 ^ 7 % 16 := Int.emod_nonneg _ (by omega)
  have e : bodyB n = 5 :: dg (n / 16 ^ 7 % 16) :: (hexN 7 n ++ [47]) := rfl
  have l10 : ((bodyB n).length : Int) = 10 := by rw [body_len]; rfl
  have b0 : bt (bodyB n) (0 : Int) = 5 := rfl
  have b1 : bt (bodyB n) (1 : Int) = ((dg (n / 16 ^ 7 % 16)).toNat : Int) := rfl
  have b9 : bt (bodyB n) (9 : Int) = 47 := rfl
  have d1 : decide ((55 : Int) < ((dg (n / 16 ^ 7 % 16)).toNat : Int)) = false := by
    have := List.all_eq_true.1 dg_le (n / 16 ^ 7 % 16).toNat (List.mem_range.2 (by omega))
    have e2 : ((n / 16 ^ 7 % 16).toNat : Int) = n / 16 ^ 7 % 16 := by omega
    rw [e2] at this
    have := of_decide_eq_true this
    exact decide_eq_false fun hh => by omega
  have c : cut2 (bodyB n) (1 : Int) (9 : Int) = hexN 8 n := rfl
  have g : ∀ {R : Type} (i : Int) (K : Option R), 0 ≤ i → i < 10 → gd (inB i (bodyB n).length) K = K := fun i K a b => gd_t (by rw [body_len]; simp [inB]; omega) K
  have tf : trimF (hexN 8 n) [48, 49, 50, 51, 52, 53, 54, 55, 56, 57, 97, 98, 99, 100, 101, 102] = some [] := by
    unfold trimF
    rw [gd_t (by rw [hexN_len]; decide)]
    exact congrArg some (trim_all (cs := digs) (hexN_mem n 8))
  have z5 : eqi (5 : Int) 5 = true := rfl
  have z47 : eqi (47 : Int) 47 = true := rfl
  have z10 : eqi (10 : Int) 10 = true := rfl
  simp only [path_isBody, l10, z10, Bool.not_true, cond_false, path_isBody_p0, c, strings_Trim, tf, eqs_self]
  rw [g 0 _ (by omega) (by omega), b0, z5]
  simp only [Bool.not_true, cond_false]
  rw [g 1 _ (by omega) (by omega), b1, d1]
  simp only [cond_false]
  rw [g 9 _ (by omega) (by omega), b9, z47]
  simp only [Bool.not_true, cond_false]
  rw [gd_t (by simp)]

theorem Key_body {n t N : Int} {m : B} (h0 : 0 ≤ n) (h1 : n ≤ 2147483647) (ht : eqi t 4 = false) (hm : m.length < 4000000000000) : path_Key NN (bodyB n, t, N, m) = some (resR (keyR (bodyB n) t N m)) := by
  have hl := body_len n
  simp only [path_Key, Valid_eq (s := bodyB n) (by omega), body_valid, cond_false, isBody_body h0 h1, cond_true, ht, Bool.not_false, Key_p1 (bodyB n) m t N (by omega) hm]
  cases keyR (bodyB n) t N m <;> rfl

theorem rbody_l0 (n : Int) (h0 : 0 ≤ n) (h1 : n < 2147483648) : ∀ (k i m : Nat), i + k = 8 → k < m →
    ref01_Body_l0 NN m (n / 16 ^ i) (hexN i n) (i : Int) = some (hexN 8 n, ())
  | _, _, 0, _, h => absurd h (Nat.not_lt_zero _)
  | 0, i, m + 1, hi, _ => by
    have : i = 8 := by omega
    subst this
    rw [ref01_Body_l0_succ]
    simp only [ref01_Body_l0_step]
    rw [bif_f (by decide)]
  | k + 1, i, m + 1, hi, hm => by
    have p : (0 : Int) < 16 ^ i := Int.pow_pos (by omega)
    have q0 : 0 ≤ n / 16 ^ i := Int.ediv_nonneg h0 (by omega)
    have q1 : n / 16 ^ i ≤ n := Int.ediv_le_self _ h0
    have t1 : Int.tmod (n / 16 ^ i) 16 = n / 16 ^ i % 16 := Int.tmod_eq_emod_of_nonneg q0
    have t2 : Int.tdiv (n / 16 ^ i) 16 = n / 16 ^ (i + 1) := by
      rw [Int.tdiv_eq_ediv_of_nonneg q0, Int.pow_succ, Int.ediv_ediv_of_nonneg (by omega)]
    have r0 : 0 ≤ n / 16 ^ i % 16 := Int.emod_nonneg _ (by omega)
    have r1 : n / 16 ^ i % 16 < 16 := Int.emod_lt_of_pos _ (by omega)
    have w1 : IntKind.wrap .i64 (n / 16 ^ i % 16 + (1 : Int)) = n / 16 ^ i % 16 + 1 := w64 (by omega) (by omega)
    have q2 : 0 ≤ n / 16 ^ (i + 1) := Int.ediv_nonneg h0 (by have : (0 : Int) < 16 ^ (i + 1) := Int.pow_pos (by omega); omega)
    have q3 : n / 16 ^ (i + 1) ≤ n := Int.ediv_le_self _ h0
    have w2 : IntKind.wrap .i64 (n / 16 ^ (i + 1)) = n / 16 ^ (i + 1) := w64 (by omega) (by omega)
    have w3 : IntKind.wrap .i64 ((i : Int) + (1 : Int)) = ((i + 1 : Nat) : Int) := by rw [w64 (by omega) (by omega)]; omega
    have d : decide ((i : Int) < 8) = true := by simp; omega
    have c : cut2 ([48, 49, 50, 51, 52, 53, 54, 55, 56, 57, 97, 98, 99, 100, 101, 102] : B) (n / 16 ^ i % 16) (n / 16 ^ i % 16 + 1) = [dg (n / 16 ^ i % 16)] := by
      generalize n / 16 ^ i % 16 = x at r0 r1
      have : ((List.range 16).all fun (a : Nat) => eqs (cut2 ([48, 49, 50, 51, 52, 53, 54, 55, 56, 57, 97, 98, 99, 100, 101, 102] : B) (a : Int) ((a : Int) + 1)) [dg (a : Int)]) = true := by decide +kernel
      have := List.all_eq_true.1 this x.toNat (List.mem_range.2 (by omega))
      have e2 : (x.toNat : Int) = x := by omega
      rw [e2] at this
      exact eqs_iff.1 this
    rw [ref01_Body_l0_succ]
    simp only [ref01_Body_l0_step, d, cond_true, t1, t2, w1, w2, w3, c]
    rw [gd_t (by simp; omega), gd_p (by simp only [maxS, List.length_singleton, hexN_len]; omega)]
    exact rbody_l0 n h0 h1 k (i + 1) m (by omega) (by omega)

theorem rBody_eq {n : Int} (h0 : 0 ≤ n) (h1 : n ≤ 2147483647) : ref01_Body NN n = some (bodyB n) := by
  have d0 : decide (n < 0) = false := by simp; omega
  have d1 : decide ((2147483647 : Int) < n) = false := by simp; omega
  have h := rbody_l0 n h0 (by omega) 8 0 NN (by omega) (by simp only [NN]; omega)
  have e1 : n / 16 ^ 0 = n := by simp
  rw [e1] at h
  have h : ref01_Body_l0 NN NN n [] 0 = some (hexN 8 n, ()) := h
  simp only [ref01_Body, d0, d1, cond_false, h]
  rw [gd_p (by simp only [maxS, List.length_singleton, hexN_len]; omega), gd_p (by simp only [maxS, List.length_append, List.length_singleton, hexN_len]; omega)]
  rfl

def low (p : B) : Prop := ∀ b ∈ p, 4 ≤ b.toNat
theorem noAny_low {p r : B} {c : UInt8} (hp : low p) : Lib.NoAny (p ++ c :: r) [1, 2, 3] p.length := fun j b hj hb => by
  rw [List.getElem?_append_left hj] at hb
  have := hp b (List.mem_of_getElem? hb)
  cases h : ([1, 2, 3] : B).contains b
  · rfl
  · simp at h
    rcases h with rfl | rfl | rfl <;> exact absurd this (by decide)
theorem any_key {p r : B} {c : UInt8} (hp : low p) (hc : ([1, 2, 3] : B).contains c = true) : Lib.indexAny (p ++ c :: r) [1, 2, 3] = (p.length : Int) :=
  Lib.indexAny_hit (noAny_low hp) (by simp) hc

theorem upTo_eq {p r : B} {c : UInt8} (hp : low p) (hc : ([1, 2, 3] : B).contains c = true) (hl : (p ++ c :: r).length < 100000) :
    path_rest_upTo_m NN (p ++ c :: r) [] 0 0 [] = some ((p, (c.toNat : Int)), ((r, ([], (0, (0, [])))), ())) := by
  have a : strings_IndexAny NN (p ++ c :: r) [1, 2, 3] = some (p.length : Int) := by
    simp only [strings_IndexAny, anyF]
    rw [gd_t (by
      have e : asciiB ([1, 2, 3] : B) = true := by decide
      rw [e]
      simp only [Bool.true_and, Bool.and_eq_true, decide_eq_true_eq]
      exact ⟨⟨by decide, by omega⟩, by decide⟩), any_key hp hc]
  have d : decide ((p.length : Int) < 0) = false := by simp
  have w : IntKind.wrap .i64 ((p.length : Int) + (1 : Int)) = (p.length : Int) + 1 := by
    simp only [List.length_append, List.length_cons] at hl
    exact w64 (by omega) (by omega)
  have c1 : cut2 (p ++ c :: r) (0 : Int) (p.length : Int) = p := by simp [cut2]
  have c2 : cut2 (p ++ c :: r) ((p.length : Int) + 1) ((p ++ c :: r).length : Int) = r := by
    unfold cut2
    have e : ((p.length : Int) + 1).toNat = p.length + 1 := by omega
    rw [e, show (p ++ c :: r).drop (p.length + 1) = r by simp [List.drop_append]]
    exact List.take_of_length_le (by simp; omega)
  have b : bt (p ++ c :: r) (p.length : Int) = (c.toNat : Int) := by simp [bt]
  simp only [path_rest_upTo_m, a, d, cond_false, w, c1, c2, b]
  rw [gd_t (by simp; omega), gd_t (by simp [inB]; omega), gd_t (by simp; omega)]

theorem cutpre6_no {s : B} (h : ([6] : B).isPrefixOf s = false) (hs : s.length < 1000000000) : strings_CutPrefix NN s [6] = some (s, false) := by
  simp only [strings_CutPrefix, stringslite_CutPrefix, HasPre _ _ (show s.length < 9223372036854775807 by omega), h, Bool.not_false, cond_true]
theorem cutpre6 (t : B) (h : t.length < 1000000000) : strings_CutPrefix NN (6 :: t) [6] = some (t, true) := by
  have hp : ([6] : B).isPrefixOf (6 :: t) = true := by simp [List.isPrefixOf]
  have c : cut2 (6 :: t) (([6] : B).length : Int) ((6 :: t).length : Int) = t := by
    unfold cut2
    have d : (6 :: t).drop (Int.toNat (([6] : B).length : Int)) = t := rfl
    rw [d]; exact List.take_of_length_le (by simp)
  simp only [strings_CutPrefix, stringslite_CutPrefix, HasPre (6 :: t) _ (by simp; omega), hp, Bool.not_true, cond_false, c]
  rw [gd_t (by simp; omega)]

/-- the key of an entry -/
theorem read_entry {p : B} (hp : low p) (h6 : ([6] : B).isPrefixOf (p ++ [1]) = false) (hl : p.length < 10000) : path_place_read_m NN (p ++ [1]) [] 0 0 [] = some ((), (([], (p, (1, (0, [])))), ())) := by
  have u := upTo_eq (p := p) (r := []) (c := 1) hp (by decide) (by simp; omega)
  have w : IntKind.wrap .i64 (((1 : UInt8).toNat : Nat) : Int) = 1 := by decide
  have e1 : (((1 : UInt8).toNat : Nat) : Int) = 1 := rfl
  simp only [path_place_read_m, cutpre6_no h6 (by simp; omega), u, cond_false, w, e1, path_place_read_m_p0]
  rfl
/-- the key of a mark -/
theorem read_link {p : B} (hp : low p) (hl : p.length < 10000) : path_place_read_m NN ([6] ++ p ++ [1]) [] 0 0 [] = some ((), (([], (p, (4, (0, [])))), ())) := by
  have u := upTo_eq (p := p) (r := []) (c := 1) hp (by decide) (by simp; omega)
  have w : IntKind.wrap .i64 (((1 : UInt8).toNat : Nat) : Int) = 1 := by decide
  have e1 : (((1 : UInt8).toNat : Nat) : Int) = 1 := rfl
  have e : [6] ++ p ++ [1] = (6 : UInt8) :: (p ++ [1]) := rfl
  rw [e]
  simp only [path_place_read_m, cutpre6 (p ++ [1]) (by simp; omega), u, cond_true, w, e1, path_place_read_m_p0]
  rfl
/-- the key of an attribute -/
theorem read_attr {p m : B} (hp : low p) (h6 : ([6] : B).isPrefixOf (p ++ 3 :: m) = false) (hl : p.length < 10000) (hm : m.length < 10000) : path_place_read_m NN (p ++ 3 :: m) [] 0 0 [] = some ((), ((m, (p, (3, (0, m)))), ())) := by
  have u := upTo_eq (p := p) (r := m) (c := 3) hp (by decide) (by simp; omega)
  have w : IntKind.wrap .i64 (((3 : UInt8).toNat : Nat) : Int) = 3 := by decide
  have e1 : (((3 : UInt8).toNat : Nat) : Int) = 3 := rfl
  have z2 : eqi (3 : Int) 2 = false := rfl
  have z3 : eqi (3 : Int) 3 = true := rfl
  have w3 : IntKind.wrap .i64 (3 : Int) = 3 := by decide
  simp only [path_place_read_m, cutpre6_no h6 (by simp; omega), u, cond_false, e1, w3, path_place_read_m_p0, z2, z3, cond_true]
theorem or_step {n x : Int} (h0 : 0 ≤ n) (h1 : n < 1099511627776) (hx0 : 0 ≤ x) (hx : x < 256) :
    IntKind.wrap .i64 (((BitVec.ofInt (IntKind.bits .i64) (IntKind.wrap .i64 (n * 2 ^ min (Int.toNat (8 : Int)) (IntKind.bits .i64))) ||| BitVec.ofInt (IntKind.bits .i64) (IntKind.wrap .i64 x)).toNat : Nat) : Int) = n * 256 + x := by
  have e0 : (2 : Int) ^ min (Int.toNat (8 : Int)) (IntKind.bits .i64) = 256 := by decide
  have e1 : IntKind.wrap .i64 (n * 256) = n * 256 := w64 (by omega) (by omega)
  have e2 : IntKind.wrap .i64 x = x := w64 (by omega) (by omega)
  have b : IntKind.bits .i64 = 64 := rfl
  rw [e0, e1, e2, b, BitVec.toNat_or]
  obtain ⟨a, rfl⟩ := Int.eq_ofNat_of_zero_le h0
  obtain ⟨c, rfl⟩ := Int.eq_ofNat_of_zero_le hx0
  have t1 : (BitVec.ofInt 64 ((a : Int) * 256)).toNat = a * 256 := by
    rw [BitVec.toNat_ofInt]; omega
  have t2 : (BitVec.ofInt 64 (c : Int)).toNat = c := by
    rw [BitVec.toNat_ofInt]; omega
  have hor : a * 256 ||| c = a * 256 + c := by
    have := Nat.two_pow_add_eq_or_of_lt (i := 8) (b := c) (by omega) a
    rw [show (2 : Nat) ^ 8 = 256 from rfl] at this
    rw [Nat.mul_comm a 256, ← this]
  rw [t1, t2, hor, w64 (by omega) (by omega)]
  omega


/-- the key of a block -/
theorem read_block {p : B} {k : Nat} (hk : k ≤ 60000) (hp : low p) (h6 : ([6] : B).isPrefixOf (p ++ blk (k : Int)) = false) (hl : p.length < 10000) : ∃ r, path_place_read_m NN (p ++ blk (k : Int)) [] 0 0 [] = some ((), ((r, (p, (2, ((k : Int), [])))), ())) := by
  rw [blk_nat hk] at h6 ⊢
  have u := upTo_eq (p := p) (r := [UInt8.ofNat (k / 256), UInt8.ofNat (k % 256)]) (c := 2) hp (by decide) (by simp; omega)
  have e1 : (((2 : UInt8).toNat : Nat) : Int) = 2 := rfl
  have w2 : IntKind.wrap .i64 (2 : Int) = 2 := by decide
  have z2 : eqi (2 : Int) 2 = true := rfl
  have ea : (UInt8.ofNat (k / 256)).toNat = k / 256 := by simp; omega
  have eb : (UInt8.ofNat (k % 256)).toNat = k % 256 := by simp
  have b0 : bt [UInt8.ofNat (k / 256), UInt8.ofNat (k % 256)] (0 : Int) = ((k / 256 : Nat) : Int) := by
    show ((UInt8.ofNat (k / 256)).toNat : Int) = _
    rw [ea]
  have b1 : bt [UInt8.ofNat (k / 256), UInt8.ofNat (k % 256)] (1 : Int) = ((k % 256 : Nat) : Int) := by
    show ((UInt8.ofNat (k % 256)).toNat : Int) = _
    rw [eb]
  have wa : IntKind.wrap .i64 ((k / 256 : Nat) : Int) = ((k / 256 : Nat) : Int) := w64 (by omega) (by omega)
  have o := or_step (n := ((k / 256 : Nat) : Int)) (x := ((k % 256 : Nat) : Int)) (by omega) (by omega) (by omega) (by omega)
  have ek : ((k / 256 : Nat) : Int) * 256 + ((k % 256 : Nat) : Int) = (k : Int) := by omega
  rw [ek] at o
  have l2 : eqi (([UInt8.ofNat (k / 256), UInt8.ofNat (k % 256)] : B).length : Int) 2 = true := rfl
  refine ⟨[UInt8.ofNat (k / 256), UInt8.ofNat (k % 256)], ?_⟩
  simp only [path_place_read_m, cutpre6_no h6 (by simp; omega), u, cond_false, e1, w2, path_place_read_m_p0, z2, cond_true, l2, b0, b1, wa, o]
  rw [gd_t (b := inB 0 ([UInt8.ofNat (k / 256), UInt8.ofNat (k % 256)] : B).length) rfl, gd_t (b := decide (0 ≤ (8 : Int))) rfl, gd_t (b := inB 1 ([UInt8.ofNat (k / 256), UInt8.ofNat (k % 256)] : B).length) rfl]

/-- a place is read from its key -/
theorem Place_of {k : B} {x : V_api_Place} {r : B} (hr : path_place_read_m NN k [] 0 0 [] = some ((), ((r, x), ()))) (hk : path_Key NN x = some (k, 0)) : path_Place NN k = some (x, 0) := by
  have z : eqi (0 : Int) 0 = true := rfl
  simp only [path_Place, hr, hk, z, Bool.not_true, cond_false, eqs_self]

theorem made_p0 (L : List Int) (t : Int) (p : B) (T : Int) {N : Int} (h0 : 0 ≤ N) (h1 : N < 65536) : ref01_MadePlace_p0 NN L t N [] 0 0 [] p T 0 [] = some ((), ((p, T, plN T N, plM T N), ())) := by
  have w3 : IntKind.wrap .i64 N = N := w64 (by omega) (by omega)
  have m8 := Int.tmod_nonneg 8 h0
  have u : 0 ≤ IntKind.wrap .u8 (Int.tmod N 8) := by rw [IntKind.wrap_u8]; omega
  simp only [ref01_MadePlace_p0, w3, Call_eq u, plN, plM]
  cases e2 : eqi T 2
  · cases e3 : eqi T 3 <;> rfl
  · have e3 : eqi T 3 = false := by rw [eqi_iff.1 e2]; rfl
    simp only [e3, cond_true, cond_false]

theorem no6 {p r : B} {c : UInt8} (h : p = [] ∨ ∃ a s, p = a :: s ∧ a ≠ 6) (hc : c ≠ 6) : ([6] : B).isPrefixOf (p ++ c :: r) = false := by
  rcases h with rfl | ⟨a, s, rfl, ha⟩
  · simp [List.isPrefixOf]; exact fun e => hc e.symm
  · simp [List.isPrefixOf]; exact fun e => ha e.symm

/-- a right path -/
structure RightP (p : B) (b4 : Bool) : Prop where
  low : low p
  h6 : p = [] ∨ ∃ a s, p = a :: s ∧ a ≠ 6
  len : p.length < 1000
  key : ∀ t n m, (b4 = true ∨ eqi t 4 = false) → m.length < 1000 → path_Key NN (p, t, n, m) = some (resR (keyR p t n m))

theorem right_made {L : List Int} (h : U8s L) : RightP (madeP L) true := by
  have hb := join_big (madeN_name h)
  have hl := madeP_len h
  refine ⟨fun b hb' => by have := hb b hb'; omega, ?_, by omega, fun t n m _ hm => Key_valid (madeP_valid h) (by omega) (by omega)⟩
  cases e : madeP L with
  | nil => exact .inl rfl
  | cons a s =>
    refine .inr ⟨a, s, rfl, fun h6 => ?_⟩
    have : 33 ≤ a.toNat := hb a (by show a ∈ madeP L; rw [e]; simp)
    rw [h6] at this
    exact absurd this (by decide)
theorem right_body {n : Int} (h0 : 0 ≤ n) (h1 : n ≤ 2147483647) : RightP (bodyB n) false := by
  have hd : (digs.all fun b => decide (4 ≤ b.toNat)) = true := by decide
  refine ⟨fun b hb => ?_, .inr ⟨5, _, rfl, by decide⟩, by rw [body_len]; omega, fun t n' m h hm => Key_body h0 h1 (h.resolve_left (by decide)) (by omega)⟩
  unfold bodyB at hb
  rcases List.mem_append.1 hb with hb | hb
  · rcases List.mem_cons.1 hb with rfl | hb
    · decide
    · simpa using List.all_eq_true.1 hd b (hexN_mem n 8 b hb)
  · rw [List.mem_singleton.1 hb]; decide

theorem place_right {p : B} {b4 : Bool} (hp : RightP p b4) {T N : Int} (hT : T = 1 ∨ T = 2 ∨ T = 3 ∨ (T = 4 ∧ b4 = true)) (h0 : 0 ≤ N) (h1 : N < 65536) :
    ∃ k, path_Key NN (p, T, plN T N, plM T N) = some (k, 0) ∧ path_Place NN k = some ((p, T, plN T N, plM T N), 0) := by
  have hl := hp.len
  rcases hT with rfl | rfl | rfl | ⟨rfl, hb⟩
  · have hk : path_Key NN (p, 1, plN 1 N, plM 1 N) = some (p ++ [1], 0) := (hp.key 1 0 [] (.inr rfl) (by simp)).trans (by rfl)
    exact ⟨_, hk, Place_of (read_entry hp.low (no6 hp.h6 (by decide)) (by omega)) hk⟩
  · have n0 := Int.tmod_nonneg 60001 h0
    have n1 : Int.tmod N 60001 < 60001 := Int.tmod_lt_of_pos _ (by omega)
    obtain ⟨k, ek⟩ := Int.eq_ofNat_of_zero_le n0
    have eN : plN 2 N = (k : Int) := ek
    have eM : plM 2 N = [] := rfl
    rw [eN, eM]
    have hk : path_Key NN (p, 2, (k : Int), []) = some (p ++ blk (k : Int), 0) := by
      rw [hp.key 2 (k : Int) [] (.inr rfl) (by simp)]
      have e1 : eqi (2 : Int) 1 = false := rfl
      have e2 : eqi (2 : Int) 2 = true := rfl
      have d0 : decide (0 ≤ (k : Int)) = true := decide_eq_true (by omega)
      have d1 : decide ((k : Int) ≤ 60000) = true := decide_eq_true (by omega)
      simp only [keyR, e1, e2, cond_false, cond_true, eqs_self, d0, d1, Bool.and_self, resR]
    obtain ⟨r, hr⟩ := read_block (p := p) (k := k) (by omega) hp.low (by rw [blk_nat (by omega)]; exact no6 hp.h6 (by decide)) (by omega)
    exact ⟨_, hk, Place_of hr hk⟩
  · have m8 := Int.tmod_nonneg 8 h0
    have u : 0 ≤ IntKind.wrap .u8 (Int.tmod N 8) := by rw [IntKind.wrap_u8]; omega
    have nm := callN_name u
    have nl := name_len nm
    have eN : plN 3 N = 0 := rfl
    have eM : plM 3 N = callN (IntKind.wrap .u8 (Int.tmod N 8)) := rfl
    rw [eN, eM]
    have hk : path_Key NN (p, 3, 0, callN (IntKind.wrap .u8 (Int.tmod N 8))) = some (p ++ 3 :: callN (IntKind.wrap .u8 (Int.tmod N 8)), 0) := by
      rw [hp.key 3 0 _ (.inr rfl) (by omega)]
      have e1 : eqi (3 : Int) 1 = false := rfl
      have e2 : eqi (3 : Int) 2 = false := rfl
      have e3 : eqi (3 : Int) 3 = true := rfl
      have e4 : p ++ [3] ++ callN (IntKind.wrap .u8 (Int.tmod N 8)) = p ++ 3 :: callN (IntKind.wrap .u8 (Int.tmod N 8)) := by simp
      simp only [keyR, e1, e2, e3, cond_false, cond_true, eqi_self, nm, Bool.and_self, resR, e4]
    exact ⟨_, hk, Place_of (read_attr hp.low (no6 hp.h6 (by decide)) (by omega) (by omega)) hk⟩
  · have hk : path_Key NN (p, 4, plN 4 N, plM 4 N) = some ([6] ++ p ++ [1], 0) := (hp.key 4 0 [] (.inl hb) (by simp)).trans (by rfl)
    exact ⟨_, hk, Place_of (read_link hp.low (by omega)) hk⟩

theorem made_place (x : V_ref01_Raw) (hx : okT T_ref01_Raw x) : ∃ pl k, ref01_MadePlace NN x = some pl ∧ path_Key NN pl = some (k, 0) ∧ path_Place NN k = some (pl, 0) := by
  obtain ⟨L, t, N⟩ := x
  have hL : U8s L := u8s_of hx.1
  have ht : 0 ≤ t ∧ t < 256 := u8_of_wf hx.2.1
  have hN : 0 ≤ N ∧ N < 65536 := u16_of_wf hx.2.2
  have t4 : Int.tmod t 4 = t % 4 := Int.tmod_eq_emod_of_nonneg ht.1
  have r0 : 0 ≤ t % 4 := Int.emod_nonneg _ (by omega)
  have r1 : t % 4 < 4 := Int.emod_lt_of_pos _ (by omega)
  have w1 : IntKind.wrap .i64 (t % 4) = t % 4 := w64 (by omega) (by omega)
  have w2 : IntKind.wrap .i64 (1 + t % 4) = 1 + t % 4 := w64 (by omega) (by omega)
  have w3 : IntKind.wrap .i64 N = N := w64 (by omega) (by omega)
  have w4 : IntKind.wrap .i64 (N * 257) = N * 257 := w64 (by omega) (by omega)
  have B := rBody_eq (n := N * 257) (by omega) (by omega)
  simp only [ref01_MadePlace, Made_eq hL, t4, w1, w2, w3, w4, B]
  have hTB : (1 + t % 4 = 1 ∨ 1 + t % 4 = 2 ∨ 1 + t % 4 = 3 ∨ (1 + t % 4 = 4 ∧ true = true)) := by
    rcases (show 1 + t % 4 = 1 ∨ 1 + t % 4 = 2 ∨ 1 + t % 4 = 3 ∨ 1 + t % 4 = 4 by omega) with h | h | h | h
    · exact .inl h
    · exact .inr (.inl h)
    · exact .inr (.inr (.inl h))
    · exact .inr (.inr (.inr ⟨h, rfl⟩))
  cases decide ((64 : Int) ≤ t)
  · simp only [cond_false, made_p0 L t (madeP L) (1 + t % 4) hN.1 hN.2]
    obtain ⟨k, k1, k2⟩ := place_right (right_made hL) hTB hN.1 hN.2
    exact ⟨_, k, rfl, k1, k2⟩
  · simp only [cond_true]
    cases e4 : eqi (1 + t % 4) 4
    · simp only [Bool.not_false, cond_true, made_p0 L t (bodyB (N * 257)) (1 + t % 4) hN.1 hN.2]
      have : 1 + t % 4 ≠ 4 := fun h => by rw [h] at e4; cases e4
      obtain ⟨k, k1, k2⟩ := place_right (right_body (n := N * 257) (by omega) (by omega)) (T := 1 + t % 4) (by
        rcases (show 1 + t % 4 = 1 ∨ 1 + t % 4 = 2 ∨ 1 + t % 4 = 3 by omega) with h | h | h
        · exact .inl h
        · exact .inr (.inl h)
        · exact .inr (.inr (.inl h))) hN.1 hN.2
      exact ⟨_, k, rfl, k1, k2⟩
    · simp only [Bool.not_true, cond_false, made_p0 L t (madeP L) (1 + t % 4) hN.1 hN.2]
      obtain ⟨k, k1, k2⟩ := place_right (right_made hL) hTB hN.1 hN.2
      exact ⟨_, k, rfl, k1, k2⟩

theorem plainKeys (x y : V_ref01_Raw) (hx : okSh (.val T_ref01_Raw) x) (hy : okSh (.val T_ref01_Raw) y) : law01_PathKeys NN x y = some true := by
  obtain ⟨a, k, a1, a2, a3⟩ := made_place x hx
  obtain ⟨b, l, b1, b2, b3⟩ := made_place y hy
  have z : eqi (0 : Int) 0 = true := rfl
  simp only [law01_PathKeys, sanity1, a1, b1, a2, b2, a3, z, cond_true, eqs_self, eqi_self, Bool.and_self]
  have e : eqs k l = (eqs a.1 b.1 && (eqi a.2.1 b.2.1 && (eqi a.2.2.1 b.2.2.1 && (eqs a.2.2.2 b.2.2.2 && true)))) := by
    rw [Bool.eq_iff_iff]
    simp only [Bool.and_eq_true, eqs_iff, eqi_iff, and_true]
    constructor
    · intro h
      rw [h, b3] at a3
      have : b = a := congrArg (fun x => x.1) (Option.some.inj a3)
      rw [this]; exact ⟨rfl, rfl, rfl, rfl⟩
    · rintro ⟨e1, e2, e3, e4⟩
      have : a = b := Prod.ext e1 (Prod.ext e2 (Prod.ext e3 e4))
      rw [this, b2] at a2
      exact (congrArg (fun x => x.1) (Option.some.inj a2)).symm
  rw [e]
  simp [eqb]
end Ds
