/- The plain law of PathOrders. -/
import Derived.Test.YtmffojmbfphidaaDoorDsKeys
import Derived.Test.YtmffojmbfphidaaDoorDsBelow
set_option linter.all false
namespace Ds
open Go Go.Dv
set_option maxRecDepth 100000
set_option linter.unusedVariables false

theorem u16_of_wf {n : Int} (h : (Lit.int .u16 n).wf = true) : 0 ≤ n ∧ n < 65536 := by
  simp [Lit.wf, IntKind.min, IntKind.max, IntKind.signed, IntKind.bits] at h
  omega

theorem blk_nat {k : Nat} (h : k ≤ 60000) : blk (k : Int) = [2, UInt8.ofNat (k / 256), UInt8.ofNat (k % 256)] := by
  have e : (2 : Int) ^ min (Int.toNat (8 : Int)) (IntKind.bits .i64) = 256 := by decide
  have f : Int.fdiv (k : Int) 256 = ((k / 256 : Nat) : Int) := by rw [Int.fdiv_eq_ediv_of_nonneg _ (by omega)]; omega
  have w1 : IntKind.wrap .u8 ((k / 256 : Nat) : Int) = ((k / 256 : Nat) : Int) := by rw [IntKind.wrap_u8]; omega
  have w2 : IntKind.wrap .u8 (k : Int) = ((k % 256 : Nat) : Int) := by rw [IntKind.wrap_u8]; omega
  unfold blk
  rw [e, f, w1, w2]
  rfl
theorem u8_lt {a b : Nat} (ha : a < 256) (hb : b < 256) : decide (UInt8.ofNat a < UInt8.ofNat b) = decide (a < b) ∧ (UInt8.ofNat a == UInt8.ofNat b) = decide (a = b) := by
  have ea : (UInt8.ofNat a).toNat = a := by simp; omega
  have eb : (UInt8.ofNat b).toNat = b := by simp; omega
  constructor
  · rw [Bool.eq_iff_iff]; simp only [decide_eq_true_eq, UInt8.lt_iff_toNat_lt, ea, eb]
  · rw [Bool.eq_iff_iff]; simp only [beq_iff_eq, decide_eq_true_eq, ← UInt8.toNat_inj, ea, eb]
theorem blk_lt {m n : Int} (h0 : 0 ≤ m) (h1 : m ≤ 60000) (h2 : 0 ≤ n) (h3 : n ≤ 60000) : lts (blk m) (blk n) = decide (m < n) := by
  obtain ⟨a, rfl⟩ := Int.eq_ofNat_of_zero_le h0
  obtain ⟨b, rfl⟩ := Int.eq_ofNat_of_zero_le h2
  rw [blk_nat (by omega), blk_nat (by omega)]
  obtain ⟨p1, p2⟩ := u8_lt (show a / 256 < 256 by omega) (show b / 256 < 256 by omega)
  obtain ⟨q1, q2⟩ := u8_lt (show a % 256 < 256 by omega) (show b % 256 < 256 by omega)
  have d2 : decide ((2 : UInt8) < 2) = false := by decide
  rw [lts_cons, lts_cons, lts_cons, p1, p2, q1, d2, lts_nil]
  rw [Bool.eq_iff_iff]
  simp only [beq_self_eq_true, Bool.true_and, Bool.false_or, Bool.and_false, Bool.or_false, Bool.or_eq_true, Bool.and_eq_true, decide_eq_true_eq]
  omega

/-- what stands behind a path in a key -/
def restB (t n : Int) (m : B) : B := bif eqi t 1 then [1] else bif eqi t 2 then blk n else [3] ++ m
theorem rest_cons (t n : Int) (m : B) : ∃ c r, restB t n m = c :: r ∧ c.toNat ≤ 3 := by
  unfold restB
  cases eqi t 1
  · cases eqi t 2
    · exact ⟨3, m, rfl, by decide⟩
    · exact ⟨_, _, rfl, by show (UInt8.ofNat (Int.toNat 2)).toNat ≤ 3; decide⟩
  · exact ⟨1, [], rfl, by decide⟩

/-- a made place with a path of names -/
def plN (t N : Int) : Int := bif eqi t 2 then Int.tmod N 60001 else 0
def plM (t N : Int) : B := bif eqi t 3 then callN (IntKind.wrap .u8 (Int.tmod N 8)) else []
theorem MadePlace_eq {L : List Int} {t N : Int} (hL : U8s L) (h0 : 0 ≤ t) (h1 : t < 3) (h2 : 0 ≤ N) (h3 : N < 65536) :
    ref01_MadePlace NN (L, t, N) = some (madeP L, 1 + t, plN (1 + t) N, plM (1 + t) N) := by
  have t4 : Int.tmod t 4 = t := by rw [Int.tmod_eq_emod_of_nonneg h0]; omega
  have w1 : IntKind.wrap .i64 t = t := w64 (by omega) (by omega)
  have w2 : IntKind.wrap .i64 (1 + t) = 1 + t := w64 (by omega) (by omega)
  have w3 : IntKind.wrap .i64 N = N := w64 (by omega) (by omega)
  have d : decide ((64 : Int) ≤ t) = false := by simp; omega
  have m8 := Int.tmod_nonneg 8 h2
  have u : 0 ≤ IntKind.wrap .u8 (Int.tmod N 8) := by rw [IntKind.wrap_u8]; omega
  simp only [ref01_MadePlace, Made_eq hL, t4, w1, w2, d, cond_false, ref01_MadePlace_p0, w3, Call_eq u, plN, plM]
  cases e2 : eqi (1 + t) 2
  · cases e3 : eqi (1 + t) 3 <;> rfl
  · have e3 : eqi (1 + t) 3 = false := by rw [eqi_iff.1 e2]; rfl
    simp only [e3, cond_true, cond_false]

theorem keyR_made {p : B} {t N : Int} (h0 : 0 ≤ t) (h1 : t < 3) (h2 : 0 ≤ N) : keyR p (1 + t) (plN (1 + t) N) (plM (1 + t) N) = some (p ++ restB (1 + t) (plN (1 + t) N) (plM (1 + t) N)) := by
  have m8 := Int.tmod_nonneg 8 h2
  have n0 := Int.tmod_nonneg 60001 h2
  have n1 : Int.tmod N 60001 < 60001 := Int.tmod_lt_of_pos _ (by omega)
  have u : 0 ≤ IntKind.wrap .u8 (Int.tmod N 8) := by rw [IntKind.wrap_u8]; omega
  have nm := callN_name u
  have : t = 0 ∨ t = 1 ∨ t = 2 := by omega
  rcases this with rfl | rfl | rfl
  · rfl
  · have a : decide (0 ≤ Int.tmod N 60001) = true := decide_eq_true n0
    have b : decide (Int.tmod N 60001 ≤ 60000) = true := decide_eq_true (by omega)
    have e1 : eqi ((1 : Int) + 1) 1 = false := rfl
    have e2 : eqi ((1 : Int) + 1) 2 = true := rfl
    have e3 : eqi ((1 : Int) + 1) 3 = false := rfl
    simp only [keyR, restB, plN, plM, e1, e2, e3, cond_true, cond_false, eqs_self, a, b, Bool.and_self]
  · have e1 : eqi ((1 : Int) + 2) 1 = false := rfl
    have e2 : eqi ((1 : Int) + 2) 2 = false := rfl
    have e3 : eqi ((1 : Int) + 2) 3 = true := rfl
    simp only [keyR, restB, plN, plM, e1, e2, e3, cond_true, cond_false, eqi_self, nm, Bool.and_self, List.append_assoc]

/-! ## prefixes of keys -/
def big (p : B) : Prop := ∀ b ∈ p, 33 ≤ b.toNat
theorem join_big {l : List B} (h : ∀ n ∈ l, nameB n = true) : big (joinP l) := by
  induction l with
  | nil => intro b hb; simp [joinP] at hb
  | cons n l ih =>
    intro b hb
    rw [joinP_cons] at hb
    rcases List.mem_append.1 hb with hb | hb
    · have := List.all_eq_true.1 (name_all (h n (by simp))) b hb
      simp only [okc, Bool.and_eq_true, decide_eq_true_eq] at this
      exact this.1
    · rcases List.mem_cons.1 hb with rfl | hb
      · decide
      · exact ih (fun m hm => h m (by simp [hm])) b hb
theorem pre_key {p q r : B} {c : UInt8} (hp : big p) (hc : c.toNat ≤ 3) : p.isPrefixOf (q ++ c :: r) = p.isPrefixOf q := by
  rw [Bool.eq_iff_iff, List.isPrefixOf_iff_prefix, List.isPrefixOf_iff_prefix]
  constructor
  · intro h
    by_cases hl : p.length ≤ q.length
    · exact List.prefix_of_prefix_length_le h (List.prefix_append _ _) hl
    · exfalso
      obtain ⟨t, ht⟩ := h
      have h1 : (p ++ t)[q.length]? = some c := by rw [ht]; simp
      rw [List.getElem?_append_left (by omega), List.getElem?_eq_getElem (by omega)] at h1
      have h2 : p[q.length] = c := Option.some.inj h1
      have := hp _ (List.getElem_mem (show q.length < p.length by omega))
      rw [h2] at this
      omega
  · intro h; exact h.trans (List.prefix_append _ _)
theorem pre_app (p r : B) : p.isPrefixOf (p ++ r) = true := List.isPrefixOf_iff_prefix.2 (List.prefix_append _ _)

theorem orders_p4 {P : B} {L : List Int} {t N : Int} (hP : big P) (hL : U8s L) (h0 : 0 ≤ t) (h2 : 0 ≤ N) (h3 : N < 65536) : law01_PathOrders_p4 NN true P L t N = some (true, ()) := by
  have t0 := Int.tmod_nonneg 3 h0
  have t1 : Int.tmod t 3 < 3 := Int.tmod_lt_of_pos _ (by omega)
  have hl := madeP_len hL
  have hm : (plM (1 + Int.tmod t 3) N).length ≤ 12 := by
    unfold plM
    cases eqi (1 + Int.tmod t 3) 3
    · simp
    · have m8 := Int.tmod_nonneg 8 h2
      have u : 0 ≤ IntKind.wrap .u8 (Int.tmod N 8) := by rw [IntKind.wrap_u8]; omega
      exact (name_len (callN_name u)).2
  simp only [law01_PathOrders_p4, MadePlace_eq hL t0 t1 h2 h3]
  rw [Key_valid (madeP_valid hL) (by omega) (by omega), keyR_made t0 t1 h2]
  obtain ⟨c, r, e, hc⟩ := rest_cons (1 + Int.tmod t 3) (plN (1 + Int.tmod t 3) N) (plM (1 + Int.tmod t 3) N)
  have hr : (restB (1 + Int.tmod t 3) (plN (1 + Int.tmod t 3) N) (plM (1 + Int.tmod t 3) N)).length ≤ 13 := by
    unfold restB
    cases eqi (1 + Int.tmod t 3) 1
    · cases eqi (1 + Int.tmod t 3) 2
      · simp; omega
      · simp [blk_len]
    · simp
  have U := fun (a b : B) (h : a.length < 1000) => Under_eq a b (by omega)
  have z : eqi (0 : Int) 0 = true := rfl
  simp only [resR, z, cond_true, U (madeP L ++ restB (1 + Int.tmod t 3) (plN (1 + Int.tmod t 3) N) (plM (1 + Int.tmod t 3) N)) P (by simp; omega), U (madeP L) P (by omega)]
  rw [e, pre_key hP hc]
  simp [eqb]

theorem orders_p2 {P : B} {L : List Int} {t N : Int} (hP : big P) (hL : U8s L) (h0 : 0 ≤ t) (h2 : 0 ≤ N) (h3 : N < 65536) (x1 x2 x3 x4 : B) (l1 : (P ++ x1).length < 1000) (l2 : (P ++ x2).length < 1000) (l3 : (P ++ x3).length < 1000) (l4 : (P ++ x4).length < 1000) :
    law01_PathOrders_p2 NN true P (P ++ x1) (P ++ x2) (P ++ x3) (P ++ x4) L t N = some (true, ()) := by
  have U := fun (x : B) (h : (P ++ x).length < 1000) => Under_eq (P ++ x) P (by omega)
  simp only [law01_PathOrders_p2, U x1 l1, U x2 l2, U x3 l3, U x4 l4, pre_app, Bool.not_true, cond_false, orders_p4 hP hL h0 h2 h3]

theorem orders_p0 {P : B} {L : List Int} {t N m n : Int} (hP : big P) (hL : U8s L) (h0 : 0 ≤ t) (h2 : 0 ≤ N) (h3 : N < 65536) (m0 : 0 ≤ m) (m1 : m ≤ 60000) (n0 : 0 ≤ n) (n1 : n ≤ 60000) (w1 w2 w3 w4 : Int)
    (u3 : 0 ≤ IntKind.wrap .u8 w3) (u4 : 0 ≤ IntKind.wrap .u8 w4) (nm r : B) (hl : P.length + nm.length + r.length < 500) (hn : nm = [] ∨ ∃ c s, nm = c :: s ∧ 33 ≤ c.toNat) :
    law01_PathOrders_p0 NN true P m n (P ++ [1]) (P ++ blk m) (P ++ blk n) (P ++ ([3] ++ callN (IntKind.wrap .u8 w3))) (P ++ ([3] ++ callN (IntKind.wrap .u8 w4))) nm (P ++ (nm ++ r)) L t N w1 w2 w3 w4 = some (true, ()) := by
  have c3 := name_len (callN_name u3)
  have c4 := name_len (callN_name u4)
  generalize ha : callN (IntKind.wrap .u8 w3) = a at *
  generalize hb : callN (IntKind.wrap .u8 w4) = b at *
  have k3 : ref01_Call NN (IntKind.wrap .u8 w3) = some a := by rw [Call_eq u3, ha]
  have k4 : ref01_Call NN (IntKind.wrap .u8 w4) = some b := by rw [Call_eq u4, hb]
  have b2 : ∀ k : Int, ∃ s, blk k = 2 :: s := fun k => ⟨_, rfl⟩
  have A1 : lts (P ++ [1]) (P ++ blk m) = true := by
    obtain ⟨s, e⟩ := b2 m
    rw [lts_app, e, lts_cons]; rfl
  have A2 : lts (P ++ blk m) (P ++ ([3] ++ a)) = true := by
    obtain ⟨s, e⟩ := b2 m
    rw [lts_app, e]
    exact (lts_cons 2 3 s a).trans (by rfl)
  have A3 : lts (P ++ blk n) (P ++ ([3] ++ b)) = true := by
    obtain ⟨s, e⟩ := b2 n
    rw [lts_app, e]
    exact (lts_cons 2 3 s b).trans (by rfl)
  have A4 : lts (P ++ blk m) (P ++ blk n) = decide (m < n) := by rw [lts_app, blk_lt m0 m1 n0 n1]
  have A5 : lts (P ++ ([3] ++ a)) (P ++ ([3] ++ b)) = lts a b := by
    rw [lts_app, lts_app]
  have p2 := orders_p2 (t := t) (N := N) hP hL h0 h2 h3 [1] (blk m) ([3] ++ b) (nm ++ r) (by simp; omega) (by simp [blk_len]; omega) (by simp; omega) (by simp; omega)
  simp only [law01_PathOrders_p0, A1, A2, A3, A4, A5, k3, k4, cond_true, Bool.not_true, cond_false, eqb, beq_self_eq_true]
  rcases hn with rfl | ⟨c, s, rfl, hc⟩
  · simp only [eqs_self, Bool.not_true, cond_false, law01_PathOrders_p3, p2]
  · have B1 : ∀ z : B, lts (P ++ ([3] ++ z)) (P ++ (c :: s ++ r)) = true := by
      intro z
      rw [lts_app]
      refine (lts_cons 3 c z (s ++ r)).trans ?_
      have : decide ((3 : UInt8) < c) = true := by
        rw [decide_eq_true_eq, UInt8.lt_iff_toNat_lt]
        have : (3 : UInt8).toNat = 3 := rfl
        omega
      rw [this]; rfl
    have ne : eqs (c :: s) [] = false := eqs_ne (by simp)
    simp only [ne, Bool.not_false, cond_true, B1, Bool.not_true, law01_PathOrders_p3, cond_false, p2]

theorem plainOrders (l : List Int) (x : V_ref01_Raw) (w : V_a4_uint16) (hl : okSh (.list (.int .u8)) l) (hx : okSh (.val T_ref01_Raw) x) (hw : okSh (.val T_a4_uint16) w) : law01_PathOrders NN l x w = some true := by
  have hu := u8s_of hl
  have hL := u8s_of hx.1
  have ht := u8_of_wf hx.2.1
  have hN := u16_of_wf hx.2.2
  have w1 := u16_of_wf hw.1
  have w2 := u16_of_wf hw.2.1
  have w3 := u16_of_wf hw.2.2.1
  have w4 := u16_of_wf hw.2.2.2
  have mn : ∀ (c : Int) (xs : List Int), 0 ≤ c → ∃ i, (bif decide (c < (xs.length : Int)) then c else (xs.length : Int)) = i ∧ 0 ≤ i ∧ i ≤ xs.length := by
    intro c xs hc
    cases q : decide (c < (xs.length : Int))
    · exact ⟨(xs.length : Int), rfl, by omega, by omega⟩
    · have := of_decide_eq_true q
      exact ⟨c, rfl, by omega, by omega⟩
  obtain ⟨i, ei, i0, i1⟩ := mn 3 l (by omega)
  obtain ⟨j, ej, j0, j1⟩ := mn 1 x.1 (by omega)
  have hci : U8s (cut2 l (0 : Int) i) := fun y hy => hu y (List.mem_of_mem_drop (List.mem_of_mem_take hy))
  have hcj : U8s (cut2 x.1 (0 : Int) j) := fun y hy => hL y (List.mem_of_mem_drop (List.mem_of_mem_take hy))
  have m60 : ∀ k : Int, 0 ≤ k → k < 65536 → 0 ≤ Int.tmod (IntKind.wrap .i64 k) 60001 ∧ Int.tmod (IntKind.wrap .i64 k) 60001 ≤ 60000 := by
    intro k h0 h1
    rw [w64 (n := k) (by omega) (by omega)]
    have := Int.tmod_lt_of_pos k (b := 60001) (by omega)
    exact ⟨Int.tmod_nonneg _ h0, by omega⟩
  obtain ⟨a0, a1⟩ := m60 w.1 w1.1 w1.2
  obtain ⟨b0, b1⟩ := m60 w.2.1 w2.1 w2.2
  have u3 : 0 ≤ IntKind.wrap .u8 w.2.2.1 := by rw [IntKind.wrap_u8]; omega
  have u4 : 0 ≤ IntKind.wrap .u8 w.2.2.2 := by rw [IntKind.wrap_u8]; omega
  have t0 := Int.tmod_nonneg 3 ht.1
  have t1 : Int.tmod x.2.1 3 < 3 := Int.tmod_lt_of_pos _ (by omega)
  have hP := madeP_valid hci
  have lP := madeP_len hci
  have bP : big (madeP (cut2 l (0 : Int) i)) := join_big (madeN_name hci)
  have lQ := madeP_len hcj
  have n3 := callN_name u3
  have n4 := callN_name u4
  have K1 : path_Key NN (madeP (cut2 l (0 : Int) i), 1, 0, []) = some (madeP (cut2 l (0 : Int) i) ++ [1], 0) := by
    rw [Key_valid hP (by omega) (by simp)]; rfl
  have K2 : ∀ k : Int, 0 ≤ k → k ≤ 60000 → path_Key NN (madeP (cut2 l (0 : Int) i), 2, k, []) = some (madeP (cut2 l (0 : Int) i) ++ blk k, 0) := by
    intro k h0 h1
    rw [Key_valid hP (by omega) (by simp)]
    have e1 : eqi (2 : Int) 1 = false := rfl
    have e2 : eqi (2 : Int) 2 = true := rfl
    have d0 : decide (0 ≤ k) = true := decide_eq_true h0
    have d1 : decide (k ≤ 60000) = true := decide_eq_true h1
    simp only [keyR, e1, e2, cond_false, cond_true, eqs_self, d0, d1, Bool.and_self, resR]
  have K3 : ∀ c : B, nameB c = true → path_Key NN (madeP (cut2 l (0 : Int) i), 3, 0, c) = some (madeP (cut2 l (0 : Int) i) ++ ([3] ++ c), 0) := by
    intro c hc
    have := name_len hc
    rw [Key_valid hP (by omega) (by omega)]
    have e1 : eqi (3 : Int) 1 = false := rfl
    have e2 : eqi (3 : Int) 2 = false := rfl
    have e3 : eqi (3 : Int) 3 = true := rfl
    simp only [keyR, e1, e2, e3, cond_false, cond_true, eqi_self, hc, Bool.and_self, resR, List.append_assoc]
  have hj : madeP (cut2 l (0 : Int) i) ++ madeP (cut2 x.1 (0 : Int) j) = joinP (madeN (cut2 l (0 : Int) i) ++ madeN (cut2 x.1 (0 : Int) j)) := by rw [joinP_append]; rfl
  have vK : validB (madeP (cut2 l (0 : Int) i) ++ madeP (cut2 x.1 (0 : Int) j)) = true := by
    rw [hj]
    exact valid_join fun m hm => by
      rcases List.mem_append.1 hm with hm | hm
      · exact madeN_name hci m hm
      · exact madeN_name hcj m hm
  have hm12 : (plM (1 + Int.tmod x.2.1 3) x.2.2).length ≤ 12 := by
    unfold plM
    cases eqi (1 + Int.tmod x.2.1 3) 3
    · simp
    · have m8 := Int.tmod_nonneg 8 hN.1
      have u : 0 ≤ IntKind.wrap .u8 (Int.tmod x.2.2 8) := by rw [IntKind.wrap_u8]; omega
      exact (name_len (callN_name u)).2
  have hr : (restB (1 + Int.tmod x.2.1 3) (plN (1 + Int.tmod x.2.1 3) x.2.2) (plM (1 + Int.tmod x.2.1 3) x.2.2)).length ≤ 13 := by
    unfold restB
    cases eqi (1 + Int.tmod x.2.1 3) 1
    · cases eqi (1 + Int.tmod x.2.1 3) 2
      · simp; omega
      · simp [blk_len]
    · simp
  have KK : path_Key NN (madeP (cut2 l (0 : Int) i) ++ madeP (cut2 x.1 (0 : Int) j), 1 + Int.tmod x.2.1 3, plN (1 + Int.tmod x.2.1 3) x.2.2, plM (1 + Int.tmod x.2.1 3) x.2.2) = some (madeP (cut2 l (0 : Int) i) ++ (madeP (cut2 x.1 (0 : Int) j) ++ restB (1 + Int.tmod x.2.1 3) (plN (1 + Int.tmod x.2.1 3) x.2.2) (plM (1 + Int.tmod x.2.1 3) x.2.2)), 0) := by
    rw [Key_valid vK (by simp; omega) (by omega), keyR_made t0 t1 hN.1, List.append_assoc]; rfl
  have hnm : madeP (cut2 x.1 (0 : Int) j) = [] ∨ ∃ c s, madeP (cut2 x.1 (0 : Int) j) = c :: s ∧ 33 ≤ c.toNat := by
    have hb := join_big (madeN_name hcj)
    cases h : madeP (cut2 x.1 (0 : Int) j) with
    | nil => exact .inl rfl
    | cons c s => exact .inr ⟨c, s, rfl, hb c (by show c ∈ madeP (cut2 x.1 (0 : Int) j); rw [h]; simp)⟩
  have p0 := orders_p0 (t := x.2.1) (N := x.2.2) bP hL ht.1 hN.1 hN.2 a0 a1 b0 b1 w.1 w.2.1 w.2.2.1 w.2.2.2 u3 u4 (madeP (cut2 x.1 (0 : Int) j)) (restB (1 + Int.tmod x.2.1 3) (plN (1 + Int.tmod x.2.1 3) x.2.2) (plM (1 + Int.tmod x.2.1 3) x.2.2)) (by omega) hnm
  have z : eqi (0 : Int) 0 = true := rfl
  simp only [law01_PathOrders, sanity1, ei, ej, Made_eq hci, K1, K2 _ a0 a1, K2 _ b0 b1, Call_eq u3, Call_eq u4, K3 _ n3, K3 _ n4, MadePlace_eq hcj t0 t1 hN.1 hN.2]
  rw [gd_t (by simp; omega), gd_t (by simp; omega), gd_p (by simp only [maxS]; omega)]
  simp only [KK, z, Bool.not_true, cond_false, law01_PathOrders_p1, p0]
end Ds
