/- What the reference's functions of names and paths compute. -/
import Derived.Test.YtmffojmbfphidaaDoorDsPaths
set_option linter.all false
namespace Ds
open Go Go.Dv
set_option maxRecDepth 100000
set_option linter.unusedVariables false

theorem bt_mid {pre post : B} {b : UInt8} : bt (pre ++ b :: post) (pre.length : Int) = (b.toNat : Int) := by simp [bt]

theorem rName_l0 : ∀ (post pre : B) (n : Nat), post.length < n → pre.length + post.length < 1000000000 →
    ref01_Name_l0 NN n (pre ++ post) (pre.length : Int) = some (bif post.all okc then .inr ((), ()) else .inl (false, ()))
  | _, _, 0, h, _ => absurd h (Nat.not_lt_zero _)
  | [], pre, n + 1, _, _ => by
    rw [ref01_Name_l0_succ]
    simp only [ref01_Name_l0_step, lt_end, cond_false]
    rfl
  | b :: post, pre, n + 1, hn, hl => by
    simp only [List.length_cons] at hn hl
    rw [ref01_Name_l0_succ]
    simp only [ref01_Name_l0_step, lt_mid, cond_true, bt_mid, List.all_cons, okc]
    rw [gd_t in_mid]
    by_cases h1 : b.toNat < 33
    · have d1 : decide ((b.toNat : Int) < 33) = true := by simp; omega
      have d2 : decide (33 ≤ b.toNat) = false := by simp; omega
      simp only [d1, d2, cond_true, Bool.false_and, cond_false]
    · have d1 : decide ((b.toNat : Int) < 33) = false := by simp; omega
      have d2 : decide (33 ≤ b.toNat) = true := by simp; omega
      simp only [d1, d2, cond_false, Bool.true_and]
      rw [gd_t in_mid]
      by_cases h3 : b.toNat ≤ 126
      · have d3 : decide ((126 : Int) < (b.toNat : Int)) = false := by simp; omega
        have d4 : decide (b.toNat ≤ 126) = true := by simp; omega
        simp only [d3, d4, cond_false, Bool.true_and]
        rw [gd_t in_mid]
        by_cases h5 : b = 47
        · subst h5
          rfl
        · have d5 : eqi (b.toNat : Int) 47 = false := eqi_ne fun e => h5 (by
            rw [← UInt8.toNat_inj]; have : (47 : UInt8).toNat = 47 := rfl
            omega)
          have d6 : (b == 47) = false := by simp [h5]
          simp only [d5, d6, cond_false, Bool.not_false, Bool.true_and]
          rw [wr_mid (by omega), app_mid]
          exact rName_l0 post (pre ++ [b]) n (by omega) (by simp; omega)
      · have d3 : decide ((126 : Int) < (b.toNat : Int)) = true := by simp; omega
        have d4 : decide (b.toNat ≤ 126) = false := by simp; omega
        simp only [d3, d4, cond_true, Bool.false_and, cond_false]

theorem rName_eq {s : B} (h : s.length < 1000000) : ref01_Name NN s = some (nameB s) := by
  have h0 := rName_l0 s [] NN (by simp only [NN]; omega) (by simp; omega)
  have z : (([] : B).length : Int) = 0 := rfl
  rw [List.nil_append, z] at h0
  simp only [ref01_Name, h0, nameB]
  cases s with
  | nil => rfl
  | cons b l =>
    have e1 : decide (((b :: l).length : Int) < 1) = false := by simp; omega
    have e2 : eqs (b :: l) [] = false := rfl
    simp only [e1, e2, cond_false]
    cases decide ((12 : Int) < ((b :: l).length : Int)) <;> simp only [cond_true, cond_false]
    cases eqs (b :: l) [46] <;> simp only [cond_true, cond_false]
    cases eqs (b :: l) [46, 46] <;> simp only [cond_true, cond_false]
    cases (b :: l).all okc <;> rfl

/-! ## the names of a path -/
def splA (last : B) (s : B) : List B × B := match (spl s).1 with | [] => ([], last ++ (spl s).2) | n :: ns => ((last ++ n) :: ns, (spl s).2)
theorem splA_nil (s : B) : splA [] s = spl s := by
  unfold splA
  cases h : (spl s).1 with
  | nil => exact Prod.ext h.symm (by simp)
  | cons n ns => exact Prod.ext (by simp [h]) rfl

theorem rNames_l0 : ∀ (post pre last : B) (out : List B) (n : Nat), post.length < n → pre.length + post.length < 1000000000 → out.length + post.length < 1000000000 → last.length + post.length < 1000000000 →
    ref01_Names_l0 NN n (pre ++ post) last (pre.length : Int) out = some (((), (splA last post).2), (out ++ (splA last post).1, ()))
  | _, _, _, _, 0, h, _, _, _ => absurd h (Nat.not_lt_zero _)
  | [], pre, last, out, n + 1, _, _, _, _ => by
    rw [ref01_Names_l0_succ]
    simp only [ref01_Names_l0_step, lt_end, cond_false]
    simp [splA, spl]
  | b :: post, pre, last, out, n + 1, hn, hl, ho, ha => by
    simp only [List.length_cons] at hn hl ho ha
    rw [ref01_Names_l0_succ]
    simp only [ref01_Names_l0_step, lt_mid, cond_true, bt_mid]
    rw [gd_t in_mid]
    by_cases h5 : b = 47
    · have d5 : eqi (b.toNat : Int) 47 = true := by rw [h5]; rfl
      have d6 : (b == 47) = true := by simp [h5]
      simp only [d5, cond_true]
      rw [gd_t (fits_p (by omega) (by omega)), wr_mid (by omega), app_mid]
      rw [rNames_l0 post (pre ++ [b]) [] (out ++ [last]) n (by omega) (by simp; omega) (by simp; omega) (by simp; omega), splA_nil]
      simp [splA, spl, d6]
    · have d5 : eqi (b.toNat : Int) 47 = false := eqi_ne fun e => h5 (by
        rw [← UInt8.toNat_inj]; have : (47 : UInt8).toNat = 47 := rfl
        omega)
      have d6 : (b == 47) = false := by simp [h5]
      simp only [d5, cond_false]
      have w : IntKind.wrap .i64 ((pre.length : Int) + (1 : Int)) = (pre.length : Int) + 1 := w64 (by omega) (by omega)
      have c : cut2 (pre ++ b :: post) (pre.length : Int) ((pre.length : Int) + 1) = [b] := by
        unfold cut2
        have e1 : ((pre.length : Int)).toNat = pre.length := by omega
        have e2 : ((pre.length : Int) + 1).toNat - pre.length = 1 := by omega
        rw [e1, e2]; simp [List.drop_append]
      rw [w, c, gd_t (by simp; omega), gd_p (by simp only [maxS, List.length_singleton]; omega)]
      have e3 : (pre.length : Int) + 1 = ((pre ++ [b]).length : Int) := by simp
      rw [e3, app_mid]
      rw [rNames_l0 post (pre ++ [b]) (last ++ [b]) out n (by omega) (by simp; omega) (by omega) (by simp; omega)]
      unfold splA
      simp only [spl, d6, cond_false]
      cases h : (spl post).1 <;> simp

theorem rNames_eq {s : B} (h : s.length < 1000000) : ref01_Names NN s = some ((spl s).1, (spl s).2.isEmpty) := by
  have h0 := rNames_l0 s [] [] [] NN (by simp only [NN]; omega) (by simp; omega) (by simp; omega) (by simp; omega)
  have z : (([] : B).length : Int) = 0 := rfl
  rw [List.nil_append, z, splA_nil] at h0
  simp only [ref01_Names, h0, List.nil_append]
  cases (spl s).2 <;> rfl

theorem spl_len : ∀ (s : B), (spl s).1.length ≤ s.length ∧ (∀ n ∈ (spl s).1, n.length ≤ s.length)
  | [] => ⟨by simp [spl], by simp [spl]⟩
  | b :: l => by
    obtain ⟨h1, h2⟩ := spl_len l
    cases e : (b == 47)
    · simp only [spl, e, cond_false]
      cases h : (spl l).1 with
      | nil => simp
      | cons n ns =>
        rw [h] at h1 h2
        refine ⟨by simp at h1 ⊢; omega, fun m hm => ?_⟩
        rcases List.mem_cons.1 hm with rfl | hm
        · have := h2 n (by simp); simp; omega
        · have := h2 m (by simp [hm]); simp; omega
    · simp only [spl, e, cond_true]
      refine ⟨by simp; omega, fun m hm => ?_⟩
      rcases List.mem_cons.1 hm with rfl | hm
      · simp
      · have := h2 m hm; simp; omega

theorem rValid_l0 (w : Bool) : ∀ (post pre : List B) (n : Nat), post.length < n → pre.length + post.length < 1000000000 → (∀ m ∈ post, m.length < 1000000) →
    ref01_Valid_l0 NN n w (pre.length : Int) (pre ++ post) = some (bif post.all nameB then .inr (w, ()) else .inl (false, ()))
  | _, _, 0, h, _, _ => absurd h (Nat.not_lt_zero _)
  | [], pre, n + 1, _, _, _ => by
    rw [ref01_Valid_l0_succ]
    simp only [ref01_Valid_l0_step, lt_end, cond_false]
    rfl
  | b :: post, pre, n + 1, hn, hl, hm => by
    simp only [List.length_cons] at hn hl
    rw [ref01_Valid_l0_succ]
    simp only [ref01_Valid_l0_step, lt_mid, cond_true, rd_mid, rName_eq (hm b (by simp)), List.all_cons]
    rw [gd_t in_mid]
    cases nameB b
    · rfl
    · simp only [Bool.not_true, cond_false, Bool.true_and]
      rw [wr_mid (q := b) (by omega), app_mid (pre := pre) (q := b) (post := post)]
      exact rValid_l0 w post (pre ++ [b]) n (by omega) (by simp; omega) fun m h => hm m (by simp [h])

theorem rValid_eq {s : B} (h : s.length < 100000) : ref01_Valid NN s = some (validB s) := by
  obtain ⟨h1, h2⟩ := spl_len s
  have h0 := rValid_l0 (spl s).2.isEmpty (spl s).1 [] NN (by simp only [NN]; omega) (by simp; omega) (fun m hm => by have := h2 m hm; omega)
  have z : (([] : List B).length : Int) = 0 := rfl
  rw [List.nil_append, z] at h0
  simp only [ref01_Valid, rNames_eq (show s.length < 1000000 by omega), h0, validB]
  cases (spl s).1.all nameB <;> rfl

/-! ## the other functions of paths -/
theorem rUnder_eq (s p : B) : ref01_Under NN s p = some (p.isPrefixOf s) := by
  simp only [ref01_Under]
  cases e : decide ((p.length : Int) ≤ (s.length : Int))
  · have e := of_decide_eq_false e
    have : p.isPrefixOf s = false := by
      cases h : p.isPrefixOf s
      · rfl
      · have := (List.isPrefixOf_iff_prefix.1 h).length_le; omega
    rw [this]; rfl
  · have e := of_decide_eq_true e
    have c : cut2 s (0 : Int) (p.length : Int) = s.take p.length := by simp [cut2]
    simp only [cond_true, c]
    rw [gd_t (by simp)]
    congr 1
    rw [Bool.eq_iff_iff, eqs_iff, List.isPrefixOf_iff_prefix]
    exact ⟨fun h => List.prefix_iff_eq_take.2 h.symm, fun h => (List.prefix_iff_eq_take.1 h).symm⟩

theorem rText_sl (t : B) (h : t.length < 1000000000) : ref01_Text NN (t ++ [47]) = some (47 :: t) := by
  have e0 : eqs (t ++ [47]) [] = false := eqs_ne (by simp)
  have w : IntKind.wrap .i64 (((t ++ [47]).length : Int) - (1 : Int)) = (t.length : Int) := by
    rw [w64 (by simp) (by simp; omega)]; simp
  have c0 : cut2 (t ++ [47]) (0 : Int) (t.length : Int) = t := by simp [cut2]
  simp only [ref01_Text, e0, cond_false, w, c0]
  rw [gd_t (by simp; omega), gd_p (by simp only [maxS, List.length_singleton]; omega)]
  rfl
theorem rText_nil : ref01_Text NN [] = some [47] := rfl
end Ds

/- Keys and places: what the program's and the reference's functions compute at any text. -/
namespace Ds
open Go Go.Dv
set_option maxRecDepth 100000
set_option linter.unusedVariables false

/-! ## bodies -/
theorem dw_all (p : UInt8 → Bool) : ∀ l : B, (l.dropWhile p).all p = l.all p
  | [] => rfl
  | b :: l => by
    cases h : p b
    · simp [List.dropWhile_cons, h]
    · simp [List.dropWhile_cons, h, dw_all p l]
theorem dw_nil (p : UInt8 → Bool) : ∀ l : B, eqs (l.dropWhile p) [] = l.all p
  | [] => rfl
  | b :: l => by
    cases h : p b
    · simp only [List.dropWhile_cons, h, Bool.false_eq_true, if_false, List.all_cons, Bool.false_and]; rfl
    · simp only [List.dropWhile_cons, h, if_true, List.all_cons, Bool.true_and, dw_nil p l]
theorem trim_eq (l cs : B) : eqs (Lib.trimS l cs) [] = l.all (cs.contains ·) := by
  unfold Lib.trimS Lib.trimLeftS Lib.trimRightS
  first
    | (rw [dw_nil, List.all_reverse, dw_all, List.all_reverse])
    | (rw [show ∀ x : B, eqs x.reverse [] = eqs x [] from fun x => by cases x with | nil => rfl | cons a t => (rw [eqs_ne (by simp), eqs_ne (by simp)])]; rw [dw_nil, List.all_reverse, dw_all])

def bodyQ (p : B) : Bool := eqi (p.length : Int) 10 && (eqi (bt p 0) 5 && (!(decide ((55 : Int) < bt p 1)) && (eqi (bt p 9) 47 && (cut2 p 1 9).all (digs.contains ·))))
theorem isBody_any (p : B) : path_isBody NN p = some (bodyQ p) := by
  cases h : eqi (p.length : Int) 10
  · simp only [path_isBody, bodyQ, h, Bool.not_false, cond_true, Bool.false_and]
  · have hl : p.length = 10 := by have := eqi_iff.1 h; omega
    have g : ∀ {R : Type} (i : Int) (K : Option R), 0 ≤ i → i < 10 → gd (inB i p.length) K = K := fun i K a b => gd_t (by rw [hl]; simp [inB]; omega) K
    have tf : trimF (cut2 p (1 : Int) (9 : Int)) [48, 49, 50, 51, 52, 53, 54, 55, 56, 57, 97, 98, 99, 100, 101, 102] = some (Lib.trimS (cut2 p (1 : Int) (9 : Int)) digs) := by
      unfold trimF
      rw [gd_t]
      · rfl
      · have e : asciiB ([48, 49, 50, 51, 52, 53, 54, 55, 56, 57, 97, 98, 99, 100, 101, 102] : B) = true := by decide
        have l : (cut2 p (1 : Int) (9 : Int)).length ≤ 10 := by
          unfold cut2; simp; omega
        rw [e]
        simp only [Bool.true_and, Bool.and_eq_true, decide_eq_true_eq]
        exact ⟨by omega, by decide⟩
    simp only [path_isBody, bodyQ, h, Bool.not_true, cond_false, Bool.true_and, path_isBody_p0, strings_Trim, tf, trim_eq]
    rw [g 0 _ (by omega) (by omega)]
    cases eqi (bt p 0) 5 <;> simp only [Bool.not_true, Bool.not_false, cond_true, cond_false, Bool.true_and, Bool.false_and]
    rw [g 1 _ (by omega) (by omega)]
    cases decide ((55 : Int) < bt p 1) <;> simp only [Bool.not_true, Bool.not_false, cond_true, cond_false, Bool.true_and, Bool.false_and]
    rw [g 9 _ (by omega) (by omega)]
    cases eqi (bt p 9) 47 <;> simp only [Bool.not_true, Bool.not_false, cond_true, cond_false, Bool.true_and, Bool.false_and]
    rw [gd_t (by rw [hl]; decide)]

theorem digs_dg : (digs.all fun d => (List.range 16).any fun (a : Nat) => dg (a : Int) == d) = true := by decide +kernel
theorem dg_of {d : UInt8} (h : digs.contains d = true) : ∃ x : Int, 0 ≤ x ∧ x < 16 ∧ dg x = d := by
  have := List.all_eq_true.1 digs_dg d (by simpa using h)
  obtain ⟨a, h1, h2⟩ := List.any_eq_true.1 this
  exact ⟨a, by omega, by have := List.mem_range.1 h1; omega, eq_of_beq h2⟩
theorem hexN_of : ∀ (l : B), l.all (digs.contains ·) = true → ∃ n : Int, 0 ≤ n ∧ n < 16 ^ l.length ∧ hexN l.length n = l
  | [], _ => ⟨0, by omega, by simp, rfl⟩
  | d :: l, h => by
    rw [List.all_cons, Bool.and_eq_true] at h
    obtain ⟨x, x0, x1, hx⟩ := dg_of h.1
    obtain ⟨n, n0, n1, hn⟩ := hexN_of l h.2
    have p : (0 : Int) < 16 ^ l.length := Int.pow_pos (by omega)
    have q : (x * 16 ^ l.length + n) / 16 ^ l.length = x := by
      rw [Int.add_comm, Int.add_mul_ediv_right _ _ (by omega), Int.ediv_eq_zero_of_lt n0 n1]; omega
    have r : (x * 16 ^ l.length + n) % 16 ^ l.length = n := by
      rw [Int.add_comm, Int.add_mul_emod_self_right, Int.emod_eq_of_lt n0 n1]
    refine ⟨x * 16 ^ l.length + n, by have := Int.mul_nonneg x0 (Int.le_of_lt p); omega, ?_, ?_⟩
    · rw [List.length_cons, Int.pow_succ]
      have : x * 16 ^ l.length ≤ 15 * 16 ^ l.length := Int.mul_le_mul_of_nonneg_right (by omega) (Int.le_of_lt p)
      omega
    · show dg ((x * 16 ^ l.length + n) / 16 ^ l.length % 16) :: hexN l.length (x * 16 ^ l.length + n) = d :: l
      rw [q, Int.emod_eq_of_lt x0 x1, hx]
      congr 1
      rw [← hexN_mod (x * 16 ^ l.length + n) l.length 0, Nat.add_zero, r, hn]

theorem dg_small : ((List.range 16).all fun (a : Nat) => decide (a < 8) || decide (55 < (dg (a : Int)).toNat)) = true := by decide +kernel
theorem len10 {p : B} (h : p.length = 10) : ∃ a b c d e f g i j k, p = [a, b, c, d, e, f, g, i, j, k] := by
  match p, h with
  | [a, b, c, d, e, f, g, i, j, k], _ => exact ⟨a, b, c, d, e, f, g, i, j, k, rfl⟩
theorem body_of {p : B} (h : bodyQ p = true) : ∃ n : Int, 0 ≤ n ∧ n ≤ 2147483647 ∧ p = bodyB n := by
  unfold bodyQ at h
  simp only [Bool.and_eq_true, eqi_iff] at h
  obtain ⟨h1, h2, h3, h4, h5⟩ := h
  obtain ⟨a, b, c, d, e, f, g, i, j, k, rfl⟩ := len10 (p := p) (by omega)
  have ec : cut2 [a, b, c, d, e, f, g, i, j, k] (1 : Int) (9 : Int) = [b, c, d, e, f, g, i, j] := rfl
  rw [ec] at h5
  obtain ⟨n, n0, n1, hn⟩ := hexN_of _ h5
  have h2 : (a.toNat : Int) = 5 := h2
  have h4 : (k.toNat : Int) = 47 := h4
  have ha : a = 5 := by rw [← UInt8.toNat_inj]; have : (5 : UInt8).toNat = 5 := rfl; omega
  have hk : k = 47 := by rw [← UInt8.toNat_inj]; have : (47 : UInt8).toNat = 47 := rfl; omega
  have l8 : ([b, c, d, e, f, g, i, j] : B).length = 8 := rfl
  rw [l8] at n1 hn
  have p8 : (16 : Int) ^ 8 = 4294967296 := by decide
  have p7 : (16 : Int) ^ 7 = 268435456 := by decide
  rw [p8] at n1
  refine ⟨n, n0, ?_, by rw [ha, hk]; unfold bodyB; rw [hn]; rfl⟩
  have hb : dg (n / 16 ^ 7 % 16) = b := by
    have : hexN 8 n = dg (n / 16 ^ 7 % 16) :: hexN 7 n := rfl
    rw [this] at hn
    exact (List.cons.inj hn).1
  have h3 : bt [a, b, c, d, e, f, g, i, j, k] 1 ≤ 55 := by simpa using h3
  have h3 : (b.toNat : Int) ≤ 55 := h3
  rw [p7] at hb
  have := List.all_eq_true.1 dg_small (n / 268435456 % 16).toNat (List.mem_range.2 (by omega))
  rw [show ((n / 268435456 % 16).toNat : Int) = n / 268435456 % 16 by omega, hb] at this
  simp only [Bool.or_eq_true, decide_eq_true_eq] at this
  omega
theorem bodyQ_body {n : Int} (h0 : 0 ≤ n) (h1 : n ≤ 2147483647) : bodyQ (bodyB n) = true := by
  have := isBody_body h0 h1
  rw [isBody_any] at this
  exact Option.some.inj this

/-! ## keys -/
def keyAny (p : B) (t n : Int) (m : B) : Option B := bif validB p || (bodyQ p && !(eqi t 4)) then keyR p t n m else none
def keyP (x : V_api_Place) : Option B := keyAny x.1 x.2.1 x.2.2.1 x.2.2.2
theorem Key_any {p m : B} {t n : Int} (hp : p.length < 1000000) (hm : m.length < 4000000000000) : path_Key NN (p, t, n, m) = some (resR (keyAny p t n m)) := by
  cases hv : validB p
  · simp only [path_Key, Valid_eq hp, hv, cond_false, isBody_any, keyAny, Bool.false_or]
    cases hb : bodyQ p
    · simp only [cond_false, Key_p1_no, Bool.false_and]; rfl
    · simp only [cond_true, Bool.true_and]
      cases e4 : eqi t 4
      · simp only [Bool.not_false, cond_true, Key_p1 p m t n hp hm]
        cases keyR p t n m <;> rfl
      · simp only [Bool.not_true, cond_false, Key_p1_no]; rfl
  · rw [Key_valid hv hp hm]
    simp only [keyAny, hv, Bool.true_or, cond_true]

theorem ridl_tot (p : B) (h : p.length = 10) : ∀ (k i m : Nat) (acc : Int), i + k = 9 → k < m → ∃ id, ref01_IsBody_l0 NN m p acc (i : Int) = some ((p, id), ())
  | _, _, 0, _, _, h => absurd h (Nat.not_lt_zero _)
  | 0, i, m + 1, acc, hi, _ => by
    have : i = 9 := by omega
    subst this
    rw [ref01_IsBody_l0_succ]
    simp only [ref01_IsBody_l0_step]
    exact ⟨acc, rfl⟩
  | k + 1, i, m + 1, acc, hi, hm => by
    have d : decide ((i : Int) < 9) = true := by simp; omega
    have w : IntKind.wrap .i64 ((i : Int) + (1 : Int)) = ((i + 1 : Nat) : Int) := by rw [w64 (by omega) (by omega)]; omega
    rw [ref01_IsBody_l0_succ]
    simp only [ref01_IsBody_l0_step, d, cond_true, w]
    rw [gd_t (by rw [h]; simp [inB]; omega)]
    cases decide ((48 : Int) ≤ IntKind.wrap .i64 (bt p (i : Int))) <;> simp only [cond_true, cond_false]
    · exact ridl_tot p h k (i + 1) m _ (by omega) (by omega)
    · cases decide (IntKind.wrap .i64 (bt p (i : Int)) ≤ 57) <;> simp only [cond_true, cond_false]
      · exact ridl_tot p h k (i + 1) m _ (by omega) (by omega)
      · exact ridl_tot p h k (i + 1) m _ (by omega) (by omega)

theorem dg_val : ((List.range 16).all fun (a : Nat) => bif decide (48 ≤ (dg (a : Int)).toNat) && decide ((dg (a : Int)).toNat ≤ 57) then decide ((dg (a : Int)).toNat = a + 48) else decide ((dg (a : Int)).toNat = a + 87)) = true := by decide +kernel
theorem bt_hex (n : Int) : ∀ (k i : Nat), i < k → (hexN k n).getD i 0 = dg (n / 16 ^ (k - 1 - i) % 16)
  | 0, i, h => absurd h (Nat.not_lt_zero _)
  | k + 1, 0, _ => by simp [hexN]
  | k + 1, i + 1, h => by
    have := bt_hex n k i (by omega)
    simp only [hexN, List.getD_cons_succ, this]
    congr 4; omega
theorem ridl_body (n : Int) (h0 : 0 ≤ n) (h1 : n ≤ 2147483647) : ∀ (k i m : Nat), i + k = 9 → 1 ≤ i → k < m → ref01_IsBody_l0 NN m (bodyB n) (n / 16 ^ k) (i : Int) = some ((bodyB n, n), ())
  | _, _, 0, _, _, h => absurd h (Nat.not_lt_zero _)
  | 0, i, m + 1, hi, _, _ => by
    have : i = 9 := by omega
    subst this
    rw [ref01_IsBody_l0_succ]
    simp only [ref01_IsBody_l0_step]
    have : n / 16 ^ 0 = n := by simp
    rw [this]; rfl
  | k + 1, i, m + 1, hi, h1i, hm => by
    have d : decide ((i : Int) < 9) = true := by simp; omega
    have w : IntKind.wrap .i64 ((i : Int) + (1 : Int)) = ((i + 1 : Nat) : Int) := by rw [w64 (by omega) (by omega)]; omega
    have hb : bt (bodyB n) (i : Int) = ((dg (n / 16 ^ k % 16)).toNat : Int) := by
      obtain ⟨j, rfl⟩ : ∃ j, i = j + 1 := ⟨i - 1, by omega⟩
      unfold bt bodyB
      rw [show (((j + 1 : Nat) : Int)).toNat = j + 1 by omega]
      simp only [List.cons_append, List.getD_cons_succ]
      rw [List.getD_eq_getElem?_getD, List.getElem?_append_left (by rw [hexN_len]; omega), ← List.getD_eq_getElem?_getD, bt_hex n 8 j (by omega), show 8 - 1 - j = k by omega]
    have p : (0 : Int) < 16 ^ k := Int.pow_pos (by omega)
    have p' : (0 : Int) < 16 ^ (k + 1) := Int.pow_pos (by omega)
    have q0 : 0 ≤ n / 16 ^ k := Int.ediv_nonneg h0 (by omega)
    have q1 : n / 16 ^ k ≤ n := Int.ediv_le_self _ h0
    have q2 : n / 16 ^ (k + 1) = n / 16 ^ k / 16 := by rw [Int.pow_succ, Int.ediv_ediv_of_nonneg (by omega)]
    rw [ref01_IsBody_l0_succ]
    simp only [ref01_IsBody_l0_step, d, cond_true, w, hb]
    rw [gd_t (by rw [body_len]; simp [inB]; omega)]
    have ih := ridl_body n h0 h1 k (i + 1) m (by omega) (by omega) (by omega)
    generalize n / 16 ^ k = a at *
    have r0 : 0 ≤ a % 16 := Int.emod_nonneg _ (by omega)
    have r1 : a % 16 < 16 := Int.emod_lt_of_pos _ (by omega)
    have v := List.all_eq_true.1 dg_val (a % 16).toNat (List.mem_range.2 (by omega))
    rw [show ((a % 16).toNat : Int) = a % 16 by omega] at v
    have u : (dg (a % 16)).toNat < 256 := (dg (a % 16)).toNat_lt
    generalize (dg (a % 16)).toNat = y at *
    rw [q2]
    have w1 : IntKind.wrap .i64 (y : Int) = y := w64 (by omega) (by omega)
    have w2 : IntKind.wrap .i64 ((16 : Int) * (a / 16)) = 16 * (a / 16) := w64 (by omega) (by omega)
    have w3 : IntKind.wrap .i64 (16 * (a / 16) + (y : Int)) = 16 * (a / 16) + y := w64 (by omega) (by omega)
    have w4 : IntKind.wrap .i64 (16 * (a / 16) + (y : Int) - 48) = 16 * (a / 16) + y - 48 := w64 (by omega) (by omega)
    have w5 : IntKind.wrap .i64 (16 * (a / 16) + (y : Int) - 97) = 16 * (a / 16) + y - 97 := w64 (by omega) (by omega)
    have w6 : IntKind.wrap .i64 (16 * (a / 16) + (y : Int) - 97 + 10) = 16 * (a / 16) + y - 97 + 10 := w64 (by omega) (by omega)
    simp only [w1, w2, w3, w4, w5, w6]
    have e1 : decide ((48 : Int) ≤ (y : Int)) = decide (48 ≤ y) := by rw [decide_eq_decide]; omega
    have e2 : decide ((y : Int) ≤ 57) = decide (y ≤ 57) := by rw [decide_eq_decide]; omega
    rw [e1, e2]
    cases g1 : decide (48 ≤ y)
    · rw [g1] at v
      have v : decide (y = (a % 16).toNat + 87) = true := v
      have v := of_decide_eq_true v
      simp only [cond_false]
      rw [show 16 * (a / 16) + (y : Int) - 97 + 10 = a by omega]
      exact ih
    · cases g2 : decide (y ≤ 57)
      · rw [g1, g2] at v
        have v : decide (y = (a % 16).toNat + 87) = true := v
        have v := of_decide_eq_true v
        simp only [cond_false, cond_true]
        rw [show 16 * (a / 16) + (y : Int) - 97 + 10 = a by omega]
        exact ih
      · rw [g1, g2] at v
        have v : decide (y = (a % 16).toNat + 48) = true := v
        have v := of_decide_eq_true v
        simp only [cond_true]
        rw [show 16 * (a / 16) + (y : Int) - 48 = a by omega]
        exact ih

theorem rBody_no {n : Int} (h : n < 0 ∨ 2147483647 < n) : ref01_Body NN n = some [] := by
  simp only [ref01_Body]
  cases d0 : decide (n < 0)
  · have d0 := of_decide_eq_false d0
    have d1 : decide ((2147483647 : Int) < n) = true := by simp; omega
    simp only [d1, cond_false, cond_true]
  · rfl
theorem rIsBody_eq (p : B) : ref01_IsBody NN p = some (bodyQ p) := by
  cases h : eqi (p.length : Int) 10
  · simp only [ref01_IsBody, bodyQ, h, Bool.not_false, cond_true, Bool.false_and]
  · have hl : p.length = 10 := by have := eqi_iff.1 h; omega
    cases hb : bodyQ p
    · obtain ⟨id, hi⟩ := ridl_tot p hl 8 1 NN 0 (by omega) (by simp only [NN]; omega)
      have hi : ref01_IsBody_l0 NN NN p 0 1 = some ((p, id), ()) := hi
      simp only [ref01_IsBody, h, Bool.not_true, cond_false, hi]
      by_cases hr : 0 ≤ id ∧ id ≤ 2147483647
      · rw [rBody_eq hr.1 hr.2]
        have : eqs (bodyB id) p = false := by
          cases e : eqs (bodyB id) p
          · rfl
          · rw [← eqs_iff.1 e, bodyQ_body hr.1 hr.2] at hb; cases hb
        simp only [this]
      · rw [rBody_no (by omega)]
        have : eqs [] p = false := eqs_ne fun e => by rw [← e] at hl; cases hl
        simp only [this]
    · obtain ⟨n, n0, n1, rfl⟩ := body_of hb
      have hi := ridl_body n n0 n1 8 1 NN (by omega) (by omega) (by simp only [NN]; omega)
      have e : n / 16 ^ 8 = 0 := by
        have p8 : (16 : Int) ^ 8 = 4294967296 := by decide
        rw [p8]; omega
      rw [e] at hi
      have hi : ref01_IsBody_l0 NN NN (bodyB n) 0 1 = some ((bodyB n, n), ()) := hi
      simp only [ref01_IsBody, h, Bool.not_true, cond_false, hi, rBody_eq n0 n1, eqs_self]

def tagB (p : B) (t n : Int) (m : B) : Bool := bif eqi t 1 then true else bif eqi t 2 then (bif decide (0 ≤ n) then decide (n ≤ 60000) else false) else bif eqi t 3 then nameB m else bif eqi t 4 then validB p else false
theorem right_p0 {p m : B} {t n : Int} (hp : p.length < 100000) (hm : m.length < 1000000) : ref01_right_p0 NN p t n m = some (tagB p t n m, ()) := by
  simp only [ref01_right_p0, rName_eq hm, rValid_eq hp, tagB]
  cases eqi t 1 <;> simp only [cond_true, cond_false]
  cases eqi t 2 <;> simp only [cond_true, cond_false]
  · cases eqi t 3 <;> simp only [cond_true, cond_false]
    cases eqi t 4 <;> simp only [cond_true, cond_false]
  · cases decide (0 ≤ n) <;> simp only [cond_true, cond_false]
def rightB (p : B) (t n : Int) (m : B) : Bool := (validB p || bodyQ p) && ((eqi t 2 || eqi n 0) && ((eqi t 3 || eqs m []) && tagB p t n m))
theorem right_eq {p m : B} {t n : Int} (hp : p.length < 100000) (hm : m.length < 1000000) : ref01_right NN (p, t, n, m) = some (rightB p t n m) := by
  simp only [ref01_right, rValid_eq hp, rIsBody_eq, ref01_right_p1, rightB]
  have z := right_p0 (t := t) (n := n) hp hm
  cases validB p <;> cases bodyQ p <;> cases eqi t 2 <;> cases eqi n 0 <;> cases eqi t 3 <;> cases eqs m [] <;> simp only [cond_true, cond_false, Bool.not_true, Bool.not_false, Bool.true_and, Bool.false_and, Bool.true_or, Bool.false_or, Bool.or_true, Bool.or_false, z]

theorem q11 : eqi (1 : Int) 1 = true := rfl
theorem q12 : eqi (1 : Int) 2 = false := rfl
theorem q13 : eqi (1 : Int) 3 = false := rfl
theorem q14 : eqi (1 : Int) 4 = false := rfl
theorem q21 : eqi (2 : Int) 1 = false := rfl
theorem q22 : eqi (2 : Int) 2 = true := rfl
theorem q23 : eqi (2 : Int) 3 = false := rfl
theorem q24 : eqi (2 : Int) 4 = false := rfl
theorem q31 : eqi (3 : Int) 1 = false := rfl
theorem q32 : eqi (3 : Int) 2 = false := rfl
theorem q33 : eqi (3 : Int) 3 = true := rfl
theorem q34 : eqi (3 : Int) 4 = false := rfl
theorem q41 : eqi (4 : Int) 1 = false := rfl
theorem q42 : eqi (4 : Int) 2 = false := rfl
theorem q43 : eqi (4 : Int) 3 = false := rfl
theorem q44 : eqi (4 : Int) 4 = true := rfl

theorem rblk {n : Int} (h0 : 0 ≤ n) (h1 : n ≤ 60000) (p : B) : p ++ [2] ++ bytesU [IntKind.wrap .u8 (IntKind.wrap .i64 (Int.tdiv n 256)), IntKind.wrap .u8 (Int.tmod n 256)] = p ++ blk n := by
  obtain ⟨k, rfl⟩ := Int.eq_ofNat_of_zero_le h0
  rw [blk_nat (by omega)]
  have t1 : Int.tdiv (k : Int) 256 = ((k / 256 : Nat) : Int) := by rw [Int.tdiv_eq_ediv_of_nonneg (by omega)]; omega
  have t2 : Int.tmod (k : Int) 256 = ((k % 256 : Nat) : Int) := by rw [Int.tmod_eq_emod_of_nonneg (by omega)]; omega
  have w0 : IntKind.wrap .i64 ((k / 256 : Nat) : Int) = ((k / 256 : Nat) : Int) := w64 (by omega) (by omega)
  have w1 : IntKind.wrap .u8 ((k / 256 : Nat) : Int) = ((k / 256 : Nat) : Int) := by rw [IntKind.wrap_u8]; omega
  have w2 : IntKind.wrap .u8 ((k % 256 : Nat) : Int) = ((k % 256 : Nat) : Int) := by rw [IntKind.wrap_u8]; omega
  rw [t1, t2, w0, w1, w2]
  show p ++ [2] ++ [UInt8.ofNat ((k / 256 : Nat) : Int).toNat, UInt8.ofNat ((k % 256 : Nat) : Int).toNat] = _
  rw [Int.toNat_natCast, Int.toNat_natCast]
  simp only [List.append_assoc, List.singleton_append]

theorem rKey_any {p m : B} {t n : Int} (hp : p.length < 100000) (hm : m.length < 100000) : ref01_Key NN (p, t, n, m) = some (resR (keyAny p t n m)) := by
  have g1 : ∀ {R : Type} (c : UInt8) (K : Option R), gd (decide (p.length + ([c] : B).length < maxS)) K = K := fun c K => gd_p (by simp only [maxS, List.length_singleton]; omega) K
  have g3 : ∀ {R : Type} (K : Option R), gd (decide ((p ++ ([3] : B)).length + m.length < maxS)) K = K := fun K => gd_p (by simp only [maxS, List.length_append, List.length_singleton]; omega) K
  have g6 : ∀ {R : Type} (K : Option R), gd (decide (([6] : B).length + p.length < maxS)) K = K := fun K => gd_p (by simp only [maxS, List.length_singleton]; omega) K
  have g6' : ∀ {R : Type} (K : Option R), gd (decide ((([6] : B) ++ p).length + ([1] : B).length < maxS)) K = K := fun K => gd_p (by simp only [maxS, List.length_append, List.length_singleton]; omega) K
  simp only [ref01_Key, right_eq hp (show m.length < 1000000 by omega)]
  by_cases h1 : t = 1
  · subst h1
    simp only [rightB, tagB, keyAny, keyR, q11, q12, q13, q14, cond_true, cond_false, Bool.false_or, Bool.and_true, Bool.not_false, g1]
    cases validB p <;> cases bodyQ p <;> cases eqi n 0 <;> cases eqs m [] <;> rfl
  by_cases h2 : t = 2
  · subst h2
    simp only [rightB, tagB, keyAny, keyR, q21, q22, q23, q24, cond_true, cond_false, Bool.false_or, Bool.true_or, Bool.true_and, Bool.and_true, Bool.not_false, g1]
    have gb : ∀ {R : Type} (x y : Int) (K : Option R), gd (decide ((p ++ ([2] : B)).length + (bytesU [x, y]).length < maxS)) K = K := fun x y K => gd_p (by simp only [maxS, bytesU, List.length_append, List.length_map, List.length_cons, List.length_nil]; omega) K
    simp only [gb]
    cases d0 : decide (0 ≤ n)
    · cases validB p <;> cases bodyQ p <;> cases eqs m [] <;> rfl
    · cases d1 : decide (n ≤ 60000)
      · cases validB p <;> cases bodyQ p <;> cases eqs m [] <;> rfl
      · rw [rblk (of_decide_eq_true d0) (of_decide_eq_true d1)]
        cases validB p <;> cases bodyQ p <;> cases eqs m [] <;> rfl
  by_cases h3 : t = 3
  · subst h3
    simp only [rightB, tagB, keyAny, keyR, q31, q32, q33, q34, cond_true, cond_false, Bool.false_or, Bool.true_or, Bool.true_and, Bool.and_true, Bool.not_false, g1, g3]
    cases validB p <;> cases bodyQ p <;> cases eqi n 0 <;> cases nameB m <;> rfl
  by_cases h4 : t = 4
  · subst h4
    simp only [rightB, tagB, keyAny, keyR, q41, q42, q43, q44, cond_true, cond_false, Bool.false_or, Bool.and_false, Bool.or_false, Bool.not_true, g6, g6']
    cases validB p <;> cases bodyQ p <;> cases eqi n 0 <;> cases eqs m [] <;> rfl
  · have e1 := eqi_ne h1
    have e2 := eqi_ne h2
    have e3 := eqi_ne h3
    have e4 := eqi_ne h4
    simp only [rightB, tagB, keyAny, keyR, e1, e2, e3, e4, cond_false, Bool.and_false, Bool.not_false, cond_true]
    cases validB p <;> cases bodyQ p <;> rfl
end Ds

/- Places: what the program and the reference read at any text; the plain laws of PathPlaces and PathMoves. -/
namespace Ds
open Go Go.Dv
set_option maxRecDepth 100000
set_option linter.unusedVariables false

/-! ## right paths -/
theorem spl_join_back : ∀ (s : B), s = joinP (spl s).1 ++ (spl s).2
  | [] => rfl
  | b :: l => by
    have ih := spl_join_back l
    cases e : (b == 47)
    · simp only [spl, e, cond_false]
      cases h : (spl l).1 with
      | nil => rw [h] at ih; simp only [joinP, List.map_nil, List.flatten_nil, List.nil_append] at ih ⊢; rw [← ih]
      | cons n ns => rw [h, joinP_cons] at ih; rw [joinP_cons]; simp only [List.cons_append] at ih ⊢; rw [← ih]
    · simp only [spl, e, cond_true]
      rw [joinP_cons, eq_of_beq e, List.nil_append, List.cons_append, ← ih]
theorem valid_names {s : B} (h : validB s = true) : ∃ l, (∀ n ∈ l, nameB n = true) ∧ s = joinP l := by
  unfold validB at h
  simp only [Bool.and_eq_true, List.isEmpty_iff] at h
  refine ⟨(spl s).1, fun n hn => List.all_eq_true.1 h.1 n hn, ?_⟩
  have := spl_join_back s
  rw [h.2, List.append_nil] at this
  exact this
theorem valid_big {s : B} (h : validB s = true) : big s := by
  obtain ⟨l, hl, rfl⟩ := valid_names h
  exact join_big hl
theorem spl_app {l : List B} (h : ∀ n ∈ l, 47 ∉ n) (t : B) : spl (joinP l ++ t) = (l ++ (spl t).1, (spl t).2) := by
  induction l with
  | nil => simp [joinP]
  | cons n l ih =>
    rw [joinP_cons, List.append_assoc, List.cons_append, spl_mid (h n (by simp)), ih fun m hm => h m (by simp [hm])]
    simp
theorem valid_app {l : List B} (h : ∀ n ∈ l, nameB n = true) (t : B) : validB (joinP l ++ t) = validB t := by
  unfold validB
  rw [spl_app fun n hn => name_sl (h n hn)]
  simp only [List.all_append]
  rw [List.all_eq_true.2 h, Bool.true_and]

/-- the tag of a place whose key is there; and its path -/
inductive KeyIs (k : B) : B → Int → Int → B → Prop
  | entry {p : B} (h : validB p = true ∨ bodyQ p = true) (e : k = p ++ [1]) : KeyIs k p 1 0 []
  | block {p : B} {n : Nat} (h : validB p = true ∨ bodyQ p = true) (hn : n ≤ 60000) (e : k = p ++ blk (n : Int)) : KeyIs k p 2 n []
  | attr {p m : B} (h : validB p = true ∨ bodyQ p = true) (hm : nameB m = true) (e : k = p ++ 3 :: m) : KeyIs k p 3 0 m
  | link {p : B} (h : validB p = true) (e : k = [6] ++ p ++ [1]) : KeyIs k p 4 0 []

theorem keyIs_of {k p m : B} {t n : Int} (h : keyAny p t n m = some k) : KeyIs k p t n m := by
  unfold keyAny at h
  cases hp : validB p || (bodyQ p && !(eqi t 4)) with
  | false => rw [hp] at h; cases h
  | true =>
    rw [hp, cond_true] at h
    have hp' : validB p = true ∨ bodyQ p = true := by
      simp only [Bool.or_eq_true, Bool.and_eq_true] at hp
      exact hp.imp id fun x => x.1
    unfold keyR at h
    cases e1 : eqi t 1 with
    | true =>
      rw [e1, cond_true] at h
      cases e : eqi n 0 && eqs m [] with
      | false => rw [e] at h; cases h
      | true =>
        rw [e, cond_true] at h
        simp only [Bool.and_eq_true, eqi_iff, eqs_iff] at e
        obtain ⟨rfl, rfl⟩ := e
        rw [eqi_iff.1 e1]
        exact .entry hp' (Option.some.inj h).symm
    | false =>
    rw [e1, cond_false] at h
    cases e2 : eqi t 2 with
    | true =>
      rw [e2, cond_true] at h
      cases e : eqs m [] && (decide (0 ≤ n) && decide (n ≤ 60000)) with
      | false => rw [e] at h; cases h
      | true =>
        rw [e, cond_true] at h
        simp only [Bool.and_eq_true, decide_eq_true_eq, eqs_iff] at e
        obtain ⟨rfl, h0, h1⟩ := e
        rw [eqi_iff.1 e2]
        obtain ⟨j, rfl⟩ := Int.eq_ofNat_of_zero_le h0
        exact .block hp' (by omega) (Option.some.inj h).symm
    | false =>
    rw [e2, cond_false] at h
    cases e3 : eqi t 3 with
    | true =>
      rw [e3, cond_true] at h
      cases e : eqi n 0 && nameB m with
      | false => rw [e] at h; cases h
      | true =>
        rw [e, cond_true] at h
        simp only [Bool.and_eq_true, eqi_iff] at e
        obtain ⟨rfl, hm⟩ := e
        rw [eqi_iff.1 e3]
        exact .attr hp' hm (by rw [← Option.some.inj h]; simp)
    | false =>
    rw [e3, cond_false] at h
    cases e4 : eqi t 4 with
    | false => rw [e4] at h; cases h
    | true =>
      rw [e4, cond_true] at h
      rw [e4] at hp
      simp only [Bool.not_true, Bool.and_false, Bool.or_false] at hp
      cases e : eqi n 0 && eqs m [] with
      | false => rw [e] at h; cases h
      | true =>
        rw [e, cond_true] at h
        simp only [Bool.and_eq_true, eqi_iff, eqs_iff] at e
        obtain ⟨rfl, rfl⟩ := e
        rw [eqi_iff.1 e4]
        exact .link hp (Option.some.inj h).symm

theorem of_keyIs {k p m : B} {t n : Int} (h : KeyIs k p t n m) : keyAny p t n m = some k := by
  cases h with
  | entry h e =>
    have : (validB p || (bodyQ p && !(eqi (1 : Int) 4))) = true := by rcases h with h | h <;> simp [h, q14]
    unfold keyAny keyR
    rw [this, e]; rfl
  | block h hn e =>
    rename_i j
    have : (validB p || (bodyQ p && !(eqi (2 : Int) 4))) = true := by rcases h with h | h <;> simp [h, q24]
    have d0 : decide (0 ≤ (j : Int)) = true := by simp
    have d1 : decide ((j : Int) ≤ 60000) = true := by simp; omega
    unfold keyAny keyR
    rw [this, e, d0, d1]; rfl
  | attr h hm e =>
    have : (validB p || (bodyQ p && !(eqi (3 : Int) 4))) = true := by rcases h with h | h <;> simp [h, q34]
    unfold keyAny keyR
    rw [this, e, hm]
    show some (p ++ [3] ++ m) = _
    simp
  | link h e =>
    unfold keyAny keyR
    rw [h, e]; rfl

structure PathOk (p : B) : Prop where
  low : low p
  h6 : p = [] ∨ ∃ a s, p = a :: s ∧ a ≠ 6
theorem path_ok {p : B} (h : validB p = true ∨ bodyQ p = true) : PathOk p := by
  rcases h with h | h
  · have hb := valid_big h
    refine ⟨fun b hm => by have := hb b hm; omega, ?_⟩
    cases p with
    | nil => exact .inl rfl
    | cons a s => exact .inr ⟨a, s, rfl, fun e => by have := hb a (by simp); rw [e] at this; exact absurd this (by decide)⟩
  · obtain ⟨n, h0, h1, rfl⟩ := body_of h
    have := right_body h0 h1
    exact ⟨this.low, this.h6⟩

/-! ## the program's reading -/
def ZP : V_api_Place := ([], 0, 0, [])
theorem Place_yes {k p m : B} {t n : Int} (h : KeyIs k p t n m) (hl : k.length < 5000) : path_Place NN k = some ((p, t, n, m), 0) := by
  have hk := of_keyIs h
  have hkey : p.length < 5000 → m.length < 5000 → path_Key NN (p, t, n, m) = some (k, 0) := fun a b => by
    rw [Key_any (by omega) (by omega), hk]; rfl
  cases h with
  | entry hp e =>
    subst e
    simp only [List.length_append, List.length_singleton] at hl
    have o := path_ok hp
    exact Place_of (read_entry o.low (no6 o.h6 (by decide)) (by omega)) (hkey (by omega) (by simp))
  | block hp hn e =>
    subst e
    rename_i j
    simp only [List.length_append, blk_len] at hl
    have o := path_ok hp
    obtain ⟨r, hr⟩ := read_block (p := p) (k := j) hn o.low (by rw [blk_nat hn]; exact no6 o.h6 (by decide)) (by omega)
    exact Place_of hr (hkey (by omega) (by simp))
  | attr hp hm e =>
    subst e
    simp only [List.length_append, List.length_cons] at hl
    have o := path_ok hp
    exact Place_of (read_attr o.low (no6 o.h6 (by decide)) (by omega) (by omega)) (hkey (by omega) (by omega))
  | link hp e =>
    subst e
    simp only [List.length_append, List.length_singleton] at hl
    have o := path_ok (.inl hp)
    exact Place_of (read_link o.low (by omega)) (hkey (by omega) (by simp))

def tagBytes : B := [1, 2, 3]
theorem tag_cases (s : B) : (∀ b ∈ s, tagBytes.contains b = false) ∨ ∃ a c r, (∀ b ∈ a, tagBytes.contains b = false) ∧ tagBytes.contains c = true ∧ s = a ++ c :: r := by
  induction s with
  | nil => exact .inl (by simp)
  | cons b l ih =>
    cases hb : tagBytes.contains b
    · rcases ih with h | ⟨a, c, r, h1, h2, h3⟩
      · refine .inl fun x hx => ?_
        rcases List.mem_cons.1 hx with rfl | hx
        · exact hb
        · exact h x hx
      · refine .inr ⟨b :: a, c, r, fun x hx => ?_, h2, by rw [h3]; rfl⟩
        rcases List.mem_cons.1 hx with rfl | hx
        · exact hb
        · exact h1 x hx
    · exact .inr ⟨[], b, l, by simp, hb, rfl⟩

theorem any_f (s : B) (hl : s.length < 100000) : anyF s tagBytes = some (Lib.indexAny s tagBytes) := by
  unfold anyF
  rw [gd_t]
  have e : asciiB tagBytes = true := by decide
  rw [e]
  simp only [Bool.true_and, Bool.and_eq_true, decide_eq_true_eq]
  exact ⟨⟨by decide, by omega⟩, by decide⟩
theorem up_none {s : B} (h : ∀ b ∈ s, tagBytes.contains b = false) (hl : s.length < 100000) : path_rest_upTo_m NN s [] 0 0 [] = some (([], 0), ((s, ([], (0, (0, [])))), ())) := by
  have a : strings_IndexAny NN s [1, 2, 3] = some (-1) := by
    show anyF s tagBytes = _
    rw [any_f s hl, Lib.indexAny_none fun j b hj hb => h b (List.mem_of_getElem? hb)]
  have d : decide ((-1 : Int) < 0) = true := rfl
  simp only [path_rest_upTo_m, a, d, cond_true]
theorem up_some {p r : B} {c : UInt8} (hp : ∀ b ∈ p, tagBytes.contains b = false) (hc : tagBytes.contains c = true) (hl : (p ++ c :: r).length < 100000) :
    path_rest_upTo_m NN (p ++ c :: r) [] 0 0 [] = some ((p, (c.toNat : Int)), ((r, ([], (0, (0, [])))), ())) := by
  have a : strings_IndexAny NN (p ++ c :: r) [1, 2, 3] = some (p.length : Int) := by
    show anyF (p ++ c :: r) tagBytes = _
    rw [any_f _ hl, Lib.indexAny_hit (i := p.length) (fun j b hj hb => ?_) (by simp) hc]
    rw [List.getElem?_append_left hj] at hb
    exact hp b (List.mem_of_getElem? hb)
  have d : decide ((p.length : Int) < 0) = false := by simp
  have w : IntKind.wrap .i64 ((p.length : Int) + (1 : Int)) = (p.length : Int) + 1 := by
    simp only [List.length_append, List.length_cons] at hl
    exact w64 (by omega) (by omega)
  have c1 : cut2 (p ++ c :: r) (0 : Int) (p.length : Int) = p := by simp [cut2]
  have c2 : cut2 (p ++ c :: r) ((p.length : Int) + 1) ((p ++ c :: r).length : Int) = r := by
    unfold cut2
    have e : ((p.length : Int) + 1).toNat = p.length + 1 := by omega
    rw [e, show (p ++ c :: r).drop (p.length + 1) = r by simp [List.drop_append]]
    exact List.take_of_length_le (by simp; omega)
  have b : bt (p ++ c :: r) (p.length : Int) = (c.toNat : Int) := by simp [bt]
  simp only [path_rest_upTo_m, a, d, cond_false, w, c1, c2, b]
  rw [gd_t (by simp; omega), gd_t (by simp [inB]; omega), gd_t (by simp; omega)]

theorem p0_tot (c : Int) (l : Bool) (s h : B) (t : Int) : ∃ r n m, path_place_read_m_p0 NN c l s h t 0 [] = some ((), ((s, (h, (r, (n, m)))), ())) ∧ m.length ≤ s.length := by
  unfold path_place_read_m_p0
  cases l
  · simp only [cond_false]
    cases eqi c 2
    · simp only [cond_false]
      cases eqi c 3
      · exact ⟨_, _, _, rfl, by simp⟩
      · exact ⟨_, _, _, rfl, Nat.le_refl _⟩
    · simp only [cond_true]
      cases e2 : eqi (s.length : Int) 2
      · simp only [cond_false]
        cases eqi c 3
        · exact ⟨_, _, _, rfl, by simp⟩
        · exact ⟨_, _, _, rfl, Nat.le_refl _⟩
      · have hl : s.length = 2 := by have := eqi_iff.1 e2; omega
        simp only [cond_true]
        rw [gd_t (by rw [hl]; rfl), gd_t (by decide), gd_t (by rw [hl]; rfl)]
        exact ⟨_, _, _, rfl, by simp⟩
  · exact ⟨_, _, _, rfl, by simp⟩

theorem read_tot (k : B) (hl : k.length < 5000) : ∃ s x, path_place_read_m NN k [] 0 0 [] = some ((), ((s, x), ())) ∧ x.1.length < 5000 ∧ x.2.2.2.length < 5000 := by
  have hc : ∃ s l, strings_CutPrefix NN k [6] = some (s, l) ∧ s.length < 5000 := by
    cases h : ([6] : B).isPrefixOf k
    · exact ⟨k, false, cutpre6_no h (by omega), hl⟩
    · obtain ⟨t, rfl⟩ := List.isPrefixOf_iff_prefix.1 h
      simp only [List.singleton_append, List.length_cons] at hl
      exact ⟨t, true, cutpre6 t (by omega), by omega⟩
  obtain ⟨s, l, h1, h2⟩ := hc
  have hu : ∃ h c r, path_rest_upTo_m NN s [] 0 0 [] = some ((h, c), ((r, ([], (0, (0, [])))), ())) ∧ h.length < 5000 ∧ r.length < 5000 := by
    rcases tag_cases s with h | ⟨a, c, r, g1, g2, rfl⟩
    · exact ⟨_, _, _, up_none h (by omega), by simp, h2⟩
    · simp only [List.length_append, List.length_cons] at h2
      exact ⟨_, _, _, up_some g1 g2 (by simp; omega), by omega, by omega⟩
  obtain ⟨h, c, r, h3, h4, h5⟩ := hu
  cases l
  · obtain ⟨t, n, m, h6, h7⟩ := p0_tot c false r h (IntKind.wrap .i64 c)
    refine ⟨r, (h, (t, (n, m))), ?_, h4, by show m.length < 5000; omega⟩
    simp only [path_place_read_m, h1, h3, cond_false, h6]
  · obtain ⟨t, n, m, h6, h7⟩ := p0_tot c (eqi c 1) r h (IntKind.wrap .i64 c)
    refine ⟨r, (h, (t, (n, m))), ?_, h4, by show m.length < 5000; omega⟩
    simp only [path_place_read_m, h1, h3, cond_true, h6]

theorem Place_no {k : B} (h : ∀ p t n m, ¬ KeyIs k p t n m) (hl : k.length < 5000) : path_Place NN k = some (ZP, 12) := by
  obtain ⟨s, ⟨p, t, n, m⟩, h1, h2, h3⟩ := read_tot k hl
  have hk : path_Key NN (p, t, n, m) = some (resR (keyAny p t n m)) := Key_any (by show p.length < _; have : p.length < 5000 := h2; omega) (by have : m.length < 5000 := h3; omega)
  simp only [path_Place, h1, hk]
  cases e : keyAny p t n m with
  | none => rfl
  | some x =>
    have : eqs x k = false := eqs_ne fun he => h p t n m (keyIs_of (by rw [← he]; exact e))
    have z : eqi (0 : Int) 0 = true := rfl
    simp only [resR, z, Bool.not_true, cond_false, this, Bool.not_false, cond_true]
    rfl

/-! ## the reference's reading -/
def pairN (r : B) : Int := match r with | [a, b] => 256 * (a.toNat : Int) + (b.toNat : Int) | _ => 0
def guessS (pre : B) (c : UInt8) (r : B) : V_api_Place :=
  bif eqi (c.toNat : Int) 1 && (decide (0 < (pre.length : Int)) && eqi (bt (pre ++ c :: r) 0) 6) then (pre.drop 1, 4, (bif eqi (c.toNat : Int) 2 then pairN r else 0), (bif eqi (c.toNat : Int) 3 then r else []))
  else (pre, (c.toNat : Int), (bif eqi (c.toNat : Int) 2 then pairN r else 0), (bif eqi (c.toNat : Int) 3 then r else []))
theorem guess_eq (pre r : B) (c : UInt8) (hl : (pre ++ c :: r).length < 100000) : ref01_guess NN (pre ++ c :: r) (pre.length : Int) = some (guessS pre c r) := by
  have hl2 : pre.length + r.length < 99999 := by simp only [List.length_append, List.length_cons] at hl; omega
  have u : c.toNat < 256 := c.toNat_lt
  have w : IntKind.wrap .i64 ((pre.length : Int) + (1 : Int)) = (pre.length : Int) + 1 := w64 (by omega) (by omega)
  have wc : IntKind.wrap .i64 (c.toNat : Int) = (c.toNat : Int) := w64 (by omega) (by omega)
  have c1 : cut2 (pre ++ c :: r) (0 : Int) (pre.length : Int) = pre := by simp [cut2]
  have c2 : cut2 (pre ++ c :: r) ((pre.length : Int) + 1) ((pre ++ c :: r).length : Int) = r := by
    unfold cut2
    have e : ((pre.length : Int) + 1).toNat = pre.length + 1 := by omega
    rw [e, show (pre ++ c :: r).drop (pre.length + 1) = r by simp [List.drop_append]]
    exact List.take_of_length_le (by simp; omega)
  have c3 : cut2 (pre ++ c :: r) (1 : Int) (pre.length : Int) = pre.drop 1 := by
    unfold cut2
    have e1 : ((1 : Int)).toNat = 1 := rfl
    have e2 : ((pre.length : Int)).toNat = pre.length := by omega
    rw [e1, e2]
    cases pre with
    | nil => simp
    | cons a s => simp
  have P0 : ∀ (N : Int), ref01_guess_p0 NN (pre ++ c :: r) (pre.length : Int) r [] 0 0 [] pre (c.toNat : Int) N [] = some ((), ((bif eqi (c.toNat : Int) 1 && (decide (0 < (pre.length : Int)) && eqi (bt (pre ++ c :: r) 0) 6) then (pre.drop 1, 4, N, (bif eqi (c.toNat : Int) 3 then r else [])) else (pre, (c.toNat : Int), N, (bif eqi (c.toNat : Int) 3 then r else []))), ())) := by
    intro N
    simp only [ref01_guess_p0, c3]
    have g0 : ∀ {R : Type} (K : Option R), gd (inB (0 : Int) (pre ++ c :: r).length) K = K := fun K => gd_t (by simp [inB]; omega) K
    simp only [g0]
    cases d : decide ((0 : Int) < (pre.length : Int))
    · cases eqi (c.toNat : Int) 3 <;> cases eqi (c.toNat : Int) 1 <;> rfl
    · have d := of_decide_eq_true d
      have g1 : ∀ {R : Type} (K : Option R), gd (decide (0 ≤ (1 : Int)) && (decide ((1 : Int) ≤ (pre.length : Int)) && decide ((pre.length : Int) ≤ ((pre ++ c :: r).length : Int)))) K = K := fun K => gd_t (by simp; omega) K
      simp only [g1]
      cases eqi (c.toNat : Int) 3 <;> cases eqi (c.toNat : Int) 1 <;> cases eqi (bt (pre ++ c :: r) 0) 6 <;> rfl
  simp only [ref01_guess, w, c1, c2, bt_mid, wc, P0]
  rw [gd_t (by simp; omega), gd_t in_mid, gd_t (by simp; omega)]
  cases e2 : eqi (c.toNat : Int) 2
  · simp only [cond_false, guessS, e2]
  · simp only [cond_true, guessS, e2]
    cases el : eqi (r.length : Int) 2
    · have : pairN r = 0 := by
        unfold pairN
        split
        · cases el
        · rfl
      simp only [cond_false, this]
    · have hr : r.length = 2 := by have := eqi_iff.1 el; omega
      match r, hr with
      | [a, b], _ =>
        have ua : a.toNat < 256 := a.toNat_lt
        have ub : b.toNat < 256 := b.toNat_lt
        have b0 : bt [a, b] (0 : Int) = (a.toNat : Int) := rfl
        have b1 : bt [a, b] (1 : Int) = (b.toNat : Int) := rfl
        have wa : IntKind.wrap .i64 (a.toNat : Int) = (a.toNat : Int) := w64 (by omega) (by omega)
        have wb : IntKind.wrap .i64 (b.toNat : Int) = (b.toNat : Int) := w64 (by omega) (by omega)
        have wm : IntKind.wrap .i64 ((256 : Int) * (a.toNat : Int)) = 256 * (a.toNat : Int) := w64 (by omega) (by omega)
        have ws : IntKind.wrap .i64 (256 * (a.toNat : Int) + (b.toNat : Int)) = 256 * (a.toNat : Int) + (b.toNat : Int) := w64 (by omega) (by omega)
        simp only [cond_true, b0, b1, wa, wb, wm, ws]
        rw [gd_t (b := inB 0 ([a, b] : B).length) rfl, gd_t (b := inB 1 ([a, b] : B).length) rfl]
        rfl

theorem tag_num {c : UInt8} : tagBytes.contains c = (decide (1 ≤ c.toNat) && decide (c.toNat ≤ 3)) := by
  have : ((List.range 256).all fun (n : Nat) => tagBytes.contains (UInt8.ofNat n) == (decide (1 ≤ n) && decide (n ≤ 3))) = true := by decide +kernel
  have := List.all_eq_true.1 this c.toNat (List.mem_range.2 c.toNat_lt)
  rw [UInt8.ofNat_toNat] at this
  exact eq_of_beq this

/-- the loop passes bytes that are no tags -/
theorem rplace_skip (r : B) : ∀ (a pre : B) (n : Nat), (∀ b ∈ a, tagBytes.contains b = false) → (pre ++ a ++ r).length < 100000 →
    ref01_Place_l0 NN (a.length + n) (pre ++ a ++ r) (pre.length : Int) [] 0 0 [] = ref01_Place_l0 NN n (pre ++ a ++ r) ((pre ++ a).length : Int) [] 0 0 []
  | [], pre, n, _, _ => by simp
  | b :: a, pre, n, h, hl => by
    have hb := h b (by simp)
    rw [tag_num] at hb
    have e : (b :: a).length + n = (a.length + n) + 1 := by simp; omega
    have e2 : pre ++ b :: a ++ r = pre ++ b :: (a ++ r) := by simp
    have hl2 : pre.length < 99999 := by simp at hl; omega
    rw [e, ref01_Place_l0_succ]
    simp only [ref01_Place_l0_step]
    rw [e2]
    simp only [lt_mid, cond_true, bt_mid]
    rw [gd_t in_mid, wr_mid (by omega)]
    have ih := rplace_skip r a (pre ++ [b]) n (fun x hx => h x (by simp [hx])) (by simp at hl ⊢; omega)
    have e3 : pre ++ [b] ++ a ++ r = pre ++ b :: (a ++ r) := by simp
    have e4 : pre ++ [b] ++ a = pre ++ b :: a := by simp
    rw [e3, e4] at ih
    rw [ih]
    cases d1 : decide ((b.toNat : Int) < 1)
    · simp only [cond_false]
      rw [gd_t in_mid]
      have d1 := of_decide_eq_false d1
      have d2 : decide ((3 : Int) < (b.toNat : Int)) = true := by
        simp only [Bool.and_eq_false_iff, decide_eq_false_iff_not] at hb
        simp; omega
      simp only [d2, cond_true]
    · simp only [cond_true]

def okK (o : Option B) (k : B) : Bool := match o with | some x => eqs x k | none => false
theorem rplace_at {pre r : B} {c : UInt8} (hc : tagBytes.contains c = true) (hl : (pre ++ c :: r).length < 5000) (n : Nat) : ∃ k', ref01_Key NN (guessS pre c r) = some (resR k') ∧ k' = keyP (guessS pre c r) ∧
    ref01_Place_l0 NN (n + 1) (pre ++ c :: r) (pre.length : Int) [] 0 0 [] = bif okK k' (pre ++ c :: r) then some (.inl (((), (0 : Int)), ((guessS pre c r), ()))) else ref01_Place_l0 NN n (pre ++ c :: r) ((pre ++ [c]).length : Int) [] 0 0 [] := by
  have hl2 : pre.length + r.length < 4999 := by simp only [List.length_append, List.length_cons] at hl; omega
  have hk : ref01_Key NN (guessS pre c r) = some (resR (keyP (guessS pre c r))) := by
    have l1 : (guessS pre c r).1.length < 100000 := by
      unfold guessS
      cases eqi (c.toNat : Int) 1 && (decide (0 < (pre.length : Int)) && eqi (bt (pre ++ c :: r) 0) 6)
      · show pre.length < 100000; omega
      · show (pre.drop 1).length < 100000
        have := List.length_drop (i := 1) (l := pre); omega
    have l2 : (guessS pre c r).2.2.2.length < 100000 := by
      unfold guessS
      cases eqi (c.toNat : Int) 1 && (decide (0 < (pre.length : Int)) && eqi (bt (pre ++ c :: r) 0) 6) <;> cases eqi (c.toNat : Int) 3
      · show ([] : B).length < 100000; simp
      · show r.length < 100000; omega
      · show ([] : B).length < 100000; simp
      · show r.length < 100000; omega
    exact rKey_any l1 l2
  refine ⟨_, hk, rfl, ?_⟩
  rw [tag_num] at hc
  simp only [Bool.and_eq_true, decide_eq_true_eq] at hc
  have d1 : decide ((c.toNat : Int) < 1) = false := by simp; omega
  have d2 : decide ((3 : Int) < (c.toNat : Int)) = false := by simp; omega
  rw [ref01_Place_l0_succ]
  simp only [ref01_Place_l0_step, lt_mid, cond_true, bt_mid, d1, d2, cond_false, guess_eq pre r c (by omega), hk]
  rw [gd_t in_mid, gd_t in_mid, wr_mid (by omega)]
  cases keyP (guessS pre c r) with
  | none => rfl
  | some x =>
    have z : eqi (0 : Int) 0 = true := rfl
    simp only [resR, z, cond_true, okK]

theorem low_tag {p : B} (h : low p) : ∀ b ∈ p, tagBytes.contains b = false := fun b hb => by
  have := h b hb
  rw [tag_num]
  simp; omega

theorem guess_of {k p m : B} {t n : Int} (h : KeyIs k p t n m) : ∃ pre c r, k = pre ++ c :: r ∧ (∀ b ∈ pre, tagBytes.contains b = false) ∧ tagBytes.contains c = true ∧ guessS pre c r = (p, t, n, m) := by
  have nb6 : ∀ {p r : B} {c : UInt8}, PathOk p → (decide (0 < (p.length : Int)) && eqi (bt (p ++ c :: r) 0) 6) = false := by
    intro p r c o
    rcases o.h6 with rfl | ⟨a, s, rfl, ha⟩
    · rfl
    · have : eqi (bt (a :: s ++ c :: r) 0) 6 = false := by
        show eqi (a.toNat : Int) 6 = false
        refine eqi_ne fun e => ha ?_
        rw [← UInt8.toNat_inj]; have : (6 : UInt8).toNat = 6 := rfl
        omega
      rw [this, Bool.and_false]
  cases h with
  | entry hp e =>
    have o := path_ok hp
    refine ⟨p, 1, [], e, low_tag o.low, rfl, ?_⟩
    unfold guessS
    rw [nb6 o, Bool.and_false]; rfl
  | block hp hn e =>
    rename_i j
    have o := path_ok hp
    rw [blk_nat hn] at e
    refine ⟨p, 2, [UInt8.ofNat (j / 256), UInt8.ofNat (j % 256)], e, low_tag o.low, rfl, ?_⟩
    unfold guessS
    rw [nb6 o, Bool.and_false]
    show (p, (2 : Int), pairN [UInt8.ofNat (j / 256), UInt8.ofNat (j % 256)], ([] : B)) = _
    have ea : (UInt8.ofNat (j / 256)).toNat = j / 256 := by simp; omega
    have eb : (UInt8.ofNat (j % 256)).toNat = j % 256 := by simp
    have : pairN [UInt8.ofNat (j / 256), UInt8.ofNat (j % 256)] = (j : Int) := by
      unfold pairN
      simp only [ea, eb]; omega
    rw [this]
  | attr hp hm e =>
    have o := path_ok hp
    refine ⟨p, 3, m, e, low_tag o.low, rfl, ?_⟩
    unfold guessS
    rw [nb6 o, Bool.and_false]; rfl
  | link hp e =>
    have o := path_ok (.inl hp)
    refine ⟨6 :: p, 1, [], by rw [e]; rfl, fun b hb => ?_, rfl, ?_⟩
    · rcases List.mem_cons.1 hb with rfl | hb
      · decide
      · exact low_tag o.low b hb
    · unfold guessS
      have d : decide ((0 : Int) < (((6 : UInt8) :: p).length : Int)) = true := by simp only [List.length_cons, decide_eq_true_eq]; omega
      have e1 : eqi (((1 : UInt8).toNat : Nat) : Int) 1 = true := rfl
      have e6 : eqi (bt ((6 : UInt8) :: p ++ 1 :: []) 0) 6 = true := rfl
      rw [d, e1, e6]; rfl

theorem rPlace_yes {k p m : B} {t n : Int} (h : KeyIs k p t n m) (hl : k.length < 5000) : ref01_Place NN k = some ((p, t, n, m), 0) := by
  have hk := of_keyIs h
  obtain ⟨pre, c, r, rfl, h1, h2, h3⟩ := guess_of h
  have hl2 : pre.length < 5000 := by simp only [List.length_append] at hl; omega
  obtain ⟨k', k1, k2, k3⟩ := rplace_at (pre := pre) (r := r) h2 hl (NN - pre.length - 1)
  have s := rplace_skip (c :: r) pre [] (NN - pre.length - 1 + 1) h1 (by simp at hl ⊢; omega)
  have e : pre.length + (NN - pre.length - 1 + 1) = NN := by simp only [NN]; omega
  have z : (([] : B).length : Int) = 0 := rfl
  rw [e, List.nil_append, z] at s
  rw [k2, h3] at k3
  have : okK (keyP (p, t, n, m)) (pre ++ c :: r) = true := by
    show okK (keyAny p t n m) (pre ++ c :: r) = true
    rw [hk]; exact eqs_self _
  rw [this, cond_true] at k3
  rw [k3] at s
  simp only [ref01_Place, s]

theorem rplace_none {k : B} (h : ∀ p t n m, ¬ KeyIs k p t n m) (hl : k.length < 5000) : ∀ (post pre : B) (n : Nat), k = pre ++ post → post.length < n → ref01_Place_l0 NN n k (pre.length : Int) [] 0 0 [] = some (.inr ((), (([], (0, (0, []))), ())))
  | _, _, 0, _, h => absurd h (Nat.not_lt_zero _)
  | [], pre, n + 1, he, _ => by
    subst he
    rw [ref01_Place_l0_succ]
    simp only [ref01_Place_l0_step, lt_end, cond_false]
  | b :: post, pre, n + 1, he, hn => by
    simp only [List.length_cons] at hn
    subst he
    have ih := rplace_none h hl post (pre ++ [b]) n (by simp) (by omega)
    cases hb : tagBytes.contains b
    · have s := rplace_skip post [b] pre n (by intro x hx; rw [List.mem_singleton.1 hx]; exact hb) (by simp at hl ⊢; omega)
      have e : pre ++ [b] ++ post = pre ++ b :: post := by simp
      rw [e, show ([b] : B).length + n = n + 1 by simp; omega] at s
      rw [s]; exact ih
    · obtain ⟨k', k1, k2, k3⟩ := rplace_at (pre := pre) (r := post) hb hl n
      rw [k3]
      have : okK k' (pre ++ b :: post) = false := by
        cases e : k' with
        | none => rfl
        | some x => exact eqs_ne fun he => h _ _ _ _ (keyIs_of (k := pre ++ b :: post) (show keyP (guessS pre b post) = some _ by rw [← k2, e, he]))
      rw [this, cond_false]; exact ih

theorem rPlace_no {k : B} (h : ∀ p t n m, ¬ KeyIs k p t n m) (hl : k.length < 5000) : ref01_Place NN k = some (ZP, 12) := by
  have := rplace_none h hl k [] NN rfl (by simp only [NN]; omega)
  have z : (([] : B).length : Int) = 0 := rfl
  rw [z] at this
  simp only [ref01_Place, this]
  rfl

/-- the two read the same -/
theorem places_agree (k : B) (hl : k.length < 5000) : ∃ x e, path_Place NN k = some (x, e) ∧ ref01_Place NN k = some (x, e) := by
  by_cases h : ∃ p t n m, KeyIs k p t n m
  · obtain ⟨p, t, n, m, h⟩ := h
    exact ⟨_, _, Place_yes h hl, rPlace_yes h hl⟩
  · have h : ∀ p t n m, ¬ KeyIs k p t n m := fun p t n m hk => h ⟨p, t, n, m, hk⟩
    exact ⟨_, _, Place_no h hl, rPlace_no h hl⟩
end Ds

/- The plain laws of PathPlaces and PathMoves. -/
namespace Ds
open Go Go.Dv
set_option maxRecDepth 100000
set_option linter.unusedVariables false

theorem plM_len (T : Int) {N : Int} (h0 : 0 ≤ N) : (plM T N).length ≤ 12 := by
  unfold plM
  cases eqi T 3
  · simp
  · have m8 := Int.tmod_nonneg 8 h0
    have u : 0 ≤ IntKind.wrap .u8 (Int.tmod N 8) := by rw [IntKind.wrap_u8]; omega
    exact (name_len (callN_name u)).2
theorem made_len (x : V_ref01_Raw) (hx : okT T_ref01_Raw x) (pl : V_api_Place) (h : ref01_MadePlace NN x = some pl) : pl.1.length < 100 ∧ pl.2.2.2.length ≤ 12 := by
  obtain ⟨L, t, N⟩ := x
  have hL : U8s L := u8s_of hx.1
  have ht : 0 ≤ t ∧ t < 256 := u8_of_wf hx.2.1
  have hN : 0 ≤ N ∧ N < 65536 := u16_of_wf hx.2.2
  have t4 : Int.tmod t 4 = t % 4 := Int.tmod_eq_emod_of_nonneg ht.1
  have r0 : 0 ≤ t % 4 := Int.emod_nonneg _ (by omega)
  have r1 : t % 4 < 4 := Int.emod_lt_of_pos _ (by omega)
  have w1 : IntKind.wrap .i64 (t % 4) = t % 4 := w64 (by omega) (by omega)
  have w2 : IntKind.wrap .i64 (1 + t % 4) = 1 + t % 4 := w64 (by omega) (by omega)
  have w3 : IntKind.wrap .i64 N = N := w64 (by omega) (by omega)
  have w4 : IntKind.wrap .i64 (N * 257) = N * 257 := w64 (by omega) (by omega)
  have B := rBody_eq (n := N * 257) (by omega) (by omega)
  have l1 := madeP_len hL
  have l2 := body_len (N * 257)
  simp only [ref01_MadePlace, Made_eq hL, t4, w1, w2, w3, w4, B] at h
  cases d : decide ((64 : Int) ≤ t)
  · rw [d] at h
    simp only [cond_false, made_p0 L t (madeP L) (1 + t % 4) hN.1 hN.2] at h
    cases h; exact ⟨by show (madeP L).length < 100; omega, plM_len _ hN.1⟩
  · rw [d] at h
    simp only [cond_true] at h
    cases e4 : eqi (1 + t % 4) 4
    · rw [e4] at h
      simp only [Bool.not_false, cond_true, made_p0 L t (bodyB (N * 257)) (1 + t % 4) hN.1 hN.2] at h
      cases h; exact ⟨by show (bodyB (N * 257)).length < 100; omega, plM_len _ hN.1⟩
    · rw [e4] at h
      simp only [Bool.not_true, cond_false, made_p0 L t (madeP L) (1 + t % 4) hN.1 hN.2] at h
      cases h; exact ⟨by show (madeP L).length < 100; omega, plM_len _ hN.1⟩

theorem keyIs_len {k p m : B} {t n : Int} (h : KeyIs k p t n m) : 0 < k.length ∧ k.length ≤ p.length + m.length + 3 := by
  cases h with
  | entry h e => subst e; simp
  | block h hn e => subst e; simp [blk_len]
  | attr h hm e => subst e; simp; omega
  | link h e => subst e; simp

theorem made_key (x : V_ref01_Raw) (hx : okT T_ref01_Raw x) : ∃ p t n m k, ref01_MadePlace NN x = some (p, t, n, m) ∧ KeyIs k p t n m ∧ p.length < 100 ∧ m.length ≤ 12 ∧ ref01_Key NN (p, t, n, m) = some (k, 0) := by
  obtain ⟨⟨p, t, n, m⟩, k, h1, h2, _⟩ := made_place x hx
  obtain ⟨l1, l2⟩ := made_len x hx _ h1
  have l1 : p.length < 100 := l1
  have l2 : m.length ≤ 12 := l2
  rw [Key_any (by omega) (by omega)] at h2
  cases e : keyAny p t n m with
  | none => rw [e] at h2; cases h2
  | some k' =>
    rw [e] at h2
    have : k' = k := congrArg (fun x => x.1) (Option.some.inj h2)
    subst this
    exact ⟨p, t, n, m, k', h1, keyIs_of e, l1, l2, by rw [rKey_any (by omega) (by omega), e]; rfl⟩

/-! ## PathPlaces -/
theorem places_l2 (b2 : B) (b3 b4 : Int) (b5 : B) (b6 : List Int) (b7 b8 b9 b10 b11 : Int) (p : B) (t n : Int) (m p' : B) (t' n' : Int) (m' : B) (l1 : p.length < 1000) (l2 : m.length < 1000) (l3 : p'.length < 1000) (l4 : m'.length < 1000) :
    law01_PathPlaces_l2 NN NN true 0 b2 b3 b4 b5 b6 b7 b8 b9 b10 b11 p t n m p' t' n' m' = some (.inr (((), ((), ((), true))), ((b2, (b3, (b4, b5))), ((b6, (b7, b8)), ((b9, (b10, b11)), ()))))) := by
  have k1 := Key_any (p := p) (m := m) (t := t) (n := n) (by omega) (by omega)
  have k2 := rKey_any (p := p) (m := m) (t := t) (n := n) (by omega) (by omega)
  have k3 := Key_any (p := p') (m := m') (t := t') (n := n') (by omega) (by omega)
  have k4 := rKey_any (p := p') (m := m') (t := t') (n := n') (by omega) (by omega)
  have c0 : decide ((0 : Int) < 2) = true := rfl
  have c1 : decide ((1 : Int) < 2) = true := rfl
  have c2 : decide ((2 : Int) < 2) = false := rfl
  have e01 : eqi (0 : Int) 1 = false := rfl
  have e00 : eqi (0 : Int) 0 = true := rfl
  have e11 : eqi (1 : Int) 1 = true := rfl
  have w0 : IntKind.wrap .i64 ((0 : Int) + 1) = 1 := by decide
  have w1 : IntKind.wrap .i64 ((1 : Int) + 1) = 2 := by decide
  show law01_PathPlaces_l2 NN (999997 + 1 + 1 + 1) true 0 b2 b3 b4 b5 b6 b7 b8 b9 b10 b11 p t n m p' t' n' m' = _
  rw [law01_PathPlaces_l2_succ]
  simp only [law01_PathPlaces_l2_step, c0, e01, e00, cond_true, cond_false, k1, k2, eqs_self, eqi_self, Bool.not_true, w0]
  rw [law01_PathPlaces_l2_succ]
  simp only [law01_PathPlaces_l2_step, c1, e11, cond_true, cond_false, k3, k4, eqs_self, eqi_self, Bool.not_true, w1]
  rw [law01_PathPlaces_l2_succ]
  simp only [law01_PathPlaces_l2_step, c2, cond_false]

theorem places_l3 (a b c : B) (l1 : a.length < 1000) (l2 : b.length < 1000) (l3 : c.length < 1000) : law01_PathPlaces_l3 NN NN true 0 a b c = some (.inr (true, ())) := by
  obtain ⟨x1, e1, p1, r1⟩ := places_agree a (by omega)
  obtain ⟨x2, e2, p2, r2⟩ := places_agree b (by omega)
  obtain ⟨x3, e3, p3, r3⟩ := places_agree c (by omega)
  have c0 : decide ((0 : Int) < 3) = true := rfl
  have c1 : decide ((1 : Int) < 3) = true := rfl
  have c2 : decide ((2 : Int) < 3) = true := rfl
  have c3 : decide ((3 : Int) < 3) = false := rfl
  have e02 : eqi (0 : Int) 2 = false := rfl
  have e01 : eqi (0 : Int) 1 = false := rfl
  have e00 : eqi (0 : Int) 0 = true := rfl
  have w0 : IntKind.wrap .i64 ((0 : Int) + 1) = 1 := by decide
  have w1 : IntKind.wrap .i64 ((1 : Int) + 1) = 2 := by decide
  have w2 : IntKind.wrap .i64 ((2 : Int) + 1) = 3 := by decide
  show law01_PathPlaces_l3 NN (999996 + 1 + 1 + 1 + 1) true 0 a b c = _
  rw [law01_PathPlaces_l3_succ]
  simp only [law01_PathPlaces_l3_step, law01_PathPlaces_p5, law01_PathPlaces_p4, c0, e02, e01, e00, cond_true, cond_false, p1, r1, eqs_self, eqi_self, Bool.and_self, Bool.not_true, w0]
  rw [law01_PathPlaces_l3_succ]
  simp only [law01_PathPlaces_l3_step, law01_PathPlaces_p5, law01_PathPlaces_p4, c1, q12, q11, cond_true, cond_false, p2, r2, eqs_self, eqi_self, Bool.and_self, Bool.not_true, w1]
  rw [law01_PathPlaces_l3_succ]
  simp only [law01_PathPlaces_l3_step, law01_PathPlaces_p5, law01_PathPlaces_p4, c2, q22, cond_true, cond_false, p3, r3, eqs_self, eqi_self, Bool.and_self, Bool.not_true, w2]
  rw [law01_PathPlaces_l3_succ]
  simp only [law01_PathPlaces_l3_step, c3, cond_false]

theorem places_p1 {b1 : B} {b2 b3 : Int} {b4 : B} {b5 : List Int} {b6 b7 b8 b9 b10 : Int} {p : B} {t n : Int} {m : B} (hx : okT T_ref01_Raw (b5, (b6, b7))) (l1 : b1.length < 1000) (l2 : b4.length < 1000) (l3 : p.length < 1000) (l4 : m.length < 1000) :
    law01_PathPlaces_p1 NN true b1 b2 b3 b4 b5 b6 b7 b8 b9 b10 p t n m = some (true, ()) := by
  obtain ⟨P, T, N, M, k, h1, h2, h3, h4, h5⟩ := made_key (b5, (b6, b7)) hx
  obtain ⟨kl, ku⟩ := keyIs_len h2
  have u0 : 0 ≤ IntKind.wrap .u16 b9 ∧ IntKind.wrap .u16 b9 < 65536 := by
    rw [IntKind.wrap_u16]; omega
  have wu : IntKind.wrap .i64 (IntKind.wrap .u16 b9) = IntKind.wrap .u16 b9 := w64 (by omega) (by omega)
  have i0 := Int.tmod_nonneg (k.length : Int) u0.1
  have i1 : Int.tmod (IntKind.wrap .u16 b9) (k.length : Int) < (k.length : Int) := Int.tmod_lt_of_pos _ (by omega)
  have z : eqi (k.length : Int) 0 = false := eqi_ne (by omega)
  simp only [law01_PathPlaces_p1, places_l2 b1 b2 b3 b4 b5 b6 b7 b8 b9 b10 b1 b2 b3 b4 p t n m l1 l2 l3 l4, h1, h5, wu, z, Bool.not_false]
  generalize Int.tmod (IntKind.wrap .u16 b9) (k.length : Int) = i at *
  have w : IntKind.wrap .i64 (i + (1 : Int)) = i + 1 := w64 (by omega) (by omega)
  have c1 : (cut2 k (0 : Int) i).length ≤ k.length := by unfold cut2; simp; omega
  have c2 : (cut2 k (i + 1) (k.length : Int)).length ≤ k.length := by unfold cut2; simp
  have c3 : ∀ y : Int, (bytesU [y]).length = 1 := fun y => rfl
  have g0 : ∀ {R : Type} (K : Option R), gd true K = K := fun K => rfl
  have g1 : ∀ {R : Type} (K : Option R), gd (decide (0 ≤ (0 : Int)) && (decide ((0 : Int) ≤ i) && decide (i ≤ (k.length : Int)))) K = K := fun K => gd_t (by simp; omega) K
  have g2 : ∀ {R : Type} (y : Int) (K : Option R), gd (decide ((cut2 k (0 : Int) i).length + (bytesU [y]).length < maxS)) K = K := fun y K => gd_p (by simp only [maxS, c3]; omega) K
  have g3 : ∀ {R : Type} (K : Option R), gd (decide (0 ≤ i + 1) && (decide (i + 1 ≤ (k.length : Int)) && decide ((k.length : Int) ≤ (k.length : Int)))) K = K := fun K => gd_t (by simp; omega) K
  have g4 : ∀ {R : Type} (y : Int) (K : Option R), gd (decide ((cut2 k (0 : Int) i ++ bytesU [y]).length + (cut2 k (i + 1) (k.length : Int)).length < maxS)) K = K := fun y K => gd_p (by simp only [maxS, List.length_append, c3]; omega) K
  simp only [w, g0, g1, g2, g3, g4]
  rw [places_l3 _ _ _ l1 (by simp only [List.length_append, c3]; omega) (by omega)]

theorem plainPlaces (a : V_api_Place) (x : V_ref01_Raw) (w : V_a3_int16) (ha : okSh (.val T_api_Place) a) (hx : okSh (.val T_ref01_Raw) x) (hw : okSh (.val T_a3_int16) w) : law01_PathPlaces NN a x w = some true := by
  obtain ⟨b1, b2, b3, b4⟩ := a
  obtain ⟨b5, b6, b7⟩ := x
  obtain ⟨b8, b9, b10⟩ := w
  simp only [law01_PathPlaces, sanity1]
  cases d1 : decide ((220 : Int) < (b1.length : Int))
  · simp only [cond_false]
    cases d2 : decide ((20 : Int) < (b4.length : Int))
    · simp only [cond_false]
      have d1 := of_decide_eq_false d1
      have d2 := of_decide_eq_false d2
      obtain ⟨P, T, N, M, k, h1, h2, h3, h4, h5⟩ := made_key (b5, (b6, b7)) hx
      have p1 := fun (p : B) (t n : Int) (m : B) l3 l4 => places_p1 (b1 := b1) (b2 := b2) (b3 := b3) (b4 := b4) (b5 := b5) (b6 := b6) (b7 := b7) (b8 := b8) (b9 := b9) (b10 := b10) (p := p) (t := t) (n := n) (m := m) hx (by omega) (by omega) l3 l4
      simp only [law01_PathPlaces_p0, h1]
      cases eqi (Int.tmod (IntKind.wrap .u16 b8) 4) 0
      · cases eqi (Int.tmod (IntKind.wrap .u16 b8) 4) 1
        · cases eqi (Int.tmod (IntKind.wrap .u16 b8) 4) 2
          · simp only [cond_false, p1 b1 T N M (by omega) (by omega)]
          · simp only [cond_false, cond_true, p1 P T N b4 (by omega) (by omega)]
        · simp only [cond_false, cond_true, p1 P _ N M (by omega) (by omega)]
      · simp only [cond_true, p1 P T _ M (by omega) (by omega)]
    · rfl
  · rfl

/-! ## PathMoves -/
theorem keyIs_low {p q k r : B} {t n : Int} {m : B} (hp : big p) (hne : p ≠ []) (h : KeyIs k q t n m) (hk : k = p ++ r) : t ≠ 4 ∧ validB q = true ∧ ∃ a, q = p ++ a := by
  have first : ∀ {s : B}, p ++ r = s → ∃ b l, s = b :: l ∧ 33 ≤ b.toNat := by
    intro s e
    cases p with
    | nil => exact absurd rfl hne
    | cons b l => exact ⟨b, l ++ r, e.symm, hp b (by simp)⟩
  have nb : validB q = true ∨ bodyQ q = true → ∀ {c : UInt8} {s : B}, p ++ r = q ++ c :: s → c.toNat ≤ 3 → validB q = true := by
    intro h c s e hc
    rcases h with h | h
    · exact h
    · obtain ⟨j, _, _, rfl⟩ := body_of h
      obtain ⟨b, l, e1, e2⟩ := first e
      unfold bodyB at e1
      simp only [List.cons_append, List.cons.injEq] at e1
      rw [← e1.1] at e2
      exact absurd e2 (by decide)
  have pre : ∀ {c : UInt8} {s : B}, p ++ r = q ++ c :: s → c.toNat ≤ 3 → ∃ a, q = p ++ a := by
    intro c s e hc
    have h1 := pre_key (q := q) (r := s) hp hc
    rw [← e, pre_app] at h1
    obtain ⟨a, ha⟩ := List.isPrefixOf_iff_prefix.1 h1.symm
    exact ⟨a, ha.symm⟩
  subst hk
  cases h with
  | entry h e => exact ⟨by decide, nb h e (by decide), pre e (by decide)⟩
  | block h hn e => rw [blk_nat hn] at e; exact ⟨by decide, nb h e (by decide), pre e (by decide)⟩
  | attr h hm e => exact ⟨by decide, nb h e (by decide), pre e (by decide)⟩
  | link h e =>
    obtain ⟨b, l, e1, e2⟩ := first e
    simp only [List.singleton_append, List.cons_append, List.cons.injEq] at e1
    rw [← e1.1] at e2
    exact absurd e2 (by decide)

theorem keyIs_turn {l l' : List B} (hl : ∀ n ∈ l, nameB n = true) (hl' : ∀ n ∈ l', nameB n = true) (hne : joinP l ≠ []) {r q m : B} {t n : Int} (h : KeyIs (joinP l ++ r) q t n m) : ∃ a, q = joinP l ++ a ∧ KeyIs (joinP l' ++ r) (joinP l' ++ a) t n m := by
  obtain ⟨h4, hv, a, rfl⟩ := keyIs_low (join_big hl) hne h rfl
  refine ⟨a, rfl, ?_⟩
  rw [valid_app hl] at hv
  have hv' : validB (joinP l' ++ a) = true := by rw [valid_app hl']; exact hv
  cases h with
  | entry h e =>
    rw [List.append_assoc] at e
    exact .entry (.inl hv') (by rw [List.append_cancel_left e, List.append_assoc])
  | block h hn e =>
    rw [List.append_assoc] at e
    exact .block (.inl hv') hn (by rw [List.append_cancel_left e, List.append_assoc])
  | attr h hm e =>
    rw [List.append_assoc] at e
    exact .attr (.inl hv') hm (by rw [List.append_cancel_left e, List.append_assoc])
  | link h e => exact absurd rfl h4

theorem moves_agree {l l' : List B} (hl : ∀ n ∈ l, nameB n = true) (hl' : ∀ n ∈ l', nameB n = true) (hne : joinP l ≠ []) (hne' : joinP l' ≠ []) {r : B} (h1 : (joinP l).length + r.length < 4000) (h2 : (joinP l').length + r.length < 4000) :
    (∃ a t n m, path_Place NN (joinP l ++ r) = some ((joinP l ++ a, t, n, m), 0) ∧ path_Place NN (joinP l' ++ r) = some ((joinP l' ++ a, t, n, m), 0) ∧ a.length ≤ r.length) ∨
    (path_Place NN (joinP l ++ r) = some (ZP, 12) ∧ path_Place NN (joinP l' ++ r) = some (ZP, 12)) := by
  by_cases h : ∃ p t n m, KeyIs (joinP l ++ r) p t n m
  · obtain ⟨p, t, n, m, h⟩ := h
    obtain ⟨a, rfl, h'⟩ := keyIs_turn hl hl' hne h
    refine .inl ⟨a, t, n, m, Place_yes h (by simp; omega), Place_yes h' (by simp; omega), ?_⟩
    have : (joinP l ++ a).length ≤ (joinP l ++ r).length := by
      cases h with
      | entry h e => rw [e]; simp
      | block h hn e => rw [e]; simp
      | attr h hm e => rw [e]; simp
      | link h e => rw [e]; simp; omega
    simp only [List.length_append] at this; omega
  · have hn : ∀ p t n m, ¬ KeyIs (joinP l ++ r) p t n m := fun p t n m hk => h ⟨p, t, n, m, hk⟩
    have hn' : ∀ p t n m, ¬ KeyIs (joinP l' ++ r) p t n m := fun p t n m hk => by
      obtain ⟨a, _, hk'⟩ := keyIs_turn hl' hl hne' hk
      exact hn _ _ _ _ hk'
    exact .inr ⟨Place_no hn (by simp; omega), Place_no hn' (by simp; omega)⟩

theorem moves_p2 {l l' : List B} {i : Int} {a s x y : B} {t n : Int} {m : B} (h1 : (joinP l).length < 1000) (h2 : (joinP l').length < 1000) (h3 : a.length < 1000) :
    law01_PathMoves_p2 NN true (joinP l) (joinP l') i 0 0 s x y (joinP l ++ a) t n m (joinP l' ++ a) t n m = some (.inr ((true, (joinP l, (joinP l', ((), i)))), ((s, (x, y)), ()))) := by
  have c : cut2 (joinP l ++ a) ((joinP l).length : Int) ((joinP l ++ a).length : Int) = a := by
    unfold cut2
    have e : (((joinP l).length : Int)).toNat = (joinP l).length := by omega
    rw [e, List.drop_left]
    exact List.take_of_length_le (by simp; omega)
  simp only [law01_PathMoves_p2, law01_PathMoves_p3, eqi_self, eqs_self, Bool.not_true, cond_false, cond_true, Under_eq (joinP l ++ a) (joinP l) (by simp; omega), pre_app, c]
  rw [gd_t (by simp; omega), gd_p (by simp only [maxS]; omega)]
theorem moves_p2z {p q : B} {i : Int} {s x y : B} : law01_PathMoves_p2 NN true p q i 12 12 s x y [] 0 0 [] [] 0 0 [] = some (.inr ((true, (p, (q, ((), i)))), ((s, (x, y)), ()))) := by
  have e : eqi (12 : Int) 0 = false := rfl
  simp only [law01_PathMoves_p2, law01_PathMoves_p3, eqi_self, eqs_self, Bool.not_true, cond_false, e]

theorem moves_l0 {l l' : List B} (hl : ∀ n ∈ l, nameB n = true) (hl' : ∀ n ∈ l', nameB n = true) (hne : joinP l ≠ []) (hne' : joinP l' ≠ []) (s x y : B) (h1 : (joinP l).length < 1000) (h2 : (joinP l').length < 1000) (g1 : s.length < 900) (g2 : x.length < 900) (g3 : y.length < 900) :
    law01_PathMoves_l0 NN NN true (joinP l) (joinP l') 0 s x y = some (.inr (true, ())) := by
  have c0 : decide ((0 : Int) < 3) = true := rfl
  have c1 : decide ((1 : Int) < 3) = true := rfl
  have c2 : decide ((2 : Int) < 3) = true := rfl
  have c3 : decide ((3 : Int) < 3) = false := rfl
  have e02 : eqi (0 : Int) 2 = false := rfl
  have e01 : eqi (0 : Int) 1 = false := rfl
  have e00 : eqi (0 : Int) 0 = true := rfl
  have w0 : IntKind.wrap .i64 ((0 : Int) + 1) = 1 := by decide
  have w1 : IntKind.wrap .i64 ((1 : Int) + 1) = 2 := by decide
  have w2 : IntKind.wrap .i64 ((2 : Int) + 1) = 3 := by decide
  have ga : ∀ {R : Type} (l : List B) (r : B) (K : Option R), (joinP l).length < 1000 → r.length < 900 → gd (decide ((joinP l).length + r.length < maxS)) K = K := fun l r K a b => gd_p (by simp only [maxS]; omega) K
  show law01_PathMoves_l0 NN (999996 + 1 + 1 + 1 + 1) true (joinP l) (joinP l') 0 s x y = _
  rw [law01_PathMoves_l0_succ]
  simp only [law01_PathMoves_l0_step, c0, e02, e01, e00, cond_true, cond_false]
  rw [ga l s _ h1 g1]
  rcases moves_agree hl hl' hne hne' (r := s) (by omega) (by omega) with ⟨a, t, n, m, a1, a2, a3⟩ | ⟨a1, a2⟩
  all_goals
    simp only [a1]
    rw [ga l' s _ h2 g1]
    simp only [a2]
    first
      | rw [moves_p2 h1 h2 (by omega)]
      | simp only [ZP, moves_p2z]
    simp only [law01_PathMoves_p1, w0]
    rw [law01_PathMoves_l0_succ]
    simp only [law01_PathMoves_l0_step, c1, q12, q11, cond_true, cond_false]
    rw [ga l x _ h1 g2]
    rcases moves_agree hl hl' hne hne' (r := x) (by omega) (by omega) with ⟨b, t2, n2, m2, b1, b2, b3⟩ | ⟨b1, b2⟩
    all_goals
      simp only [b1]
      rw [ga l' x _ h2 g2]
      simp only [b2]
      first
        | rw [moves_p2 h1 h2 (by omega)]
        | simp only [ZP, moves_p2z]
      simp only [law01_PathMoves_p1, w1]
      rw [law01_PathMoves_l0_succ]
      simp only [law01_PathMoves_l0_step, c2, q22, cond_true, cond_false]
      rw [ga l y _ h1 g3]
      rcases moves_agree hl hl' hne hne' (r := y) (by omega) (by omega) with ⟨d, t3, n3, m3, d1, d2, d3⟩ | ⟨d1, d2⟩
      all_goals
        simp only [d1]
        rw [ga l' y _ h2 g3]
        simp only [d2]
        first
          | rw [moves_p2 h1 h2 (by omega)]
          | simp only [ZP, moves_p2z]
        simp only [law01_PathMoves_p1, w2]
        rw [law01_PathMoves_l0_succ]
        simp only [law01_PathMoves_l0_step, c3, cond_false]

theorem plainMoves (l : V_a2_s_uint8) (x : V_ref01_Raw) (s : List UInt8) (hl : okSh (.val T_a2_s_uint8) l) (hx : okSh (.val T_ref01_Raw) x) (hs : okSh .str s) : law01_PathMoves NN l x s = some true := by
  obtain ⟨L, M⟩ := l
  obtain ⟨X, t, N⟩ := x
  have hL : U8s L := u8s_of hl.1
  have hM : U8s M := u8s_of hl.2
  have ht : 0 ≤ t ∧ t < 256 := u8_of_wf hx.2.1
  have hx' : okT T_ref01_Raw (X, (Int.tmod t 3, N)) := by
    refine ⟨hx.1, ?_, hx.2.2⟩
    have m0 := Int.tmod_nonneg 3 ht.1
    have m1 : Int.tmod t 3 < 3 := Int.tmod_lt_of_pos _ (by omega)
    show (Lit.int .u8 (Int.tmod t 3)).wf = true
    simp [Lit.wf, IntKind.min, IntKind.max, IntKind.signed, IntKind.bits]
    omega
  obtain ⟨P, T, n, m, k, h1, h2, h3, h4, h5⟩ := made_key _ hx'
  obtain ⟨kl, ku⟩ := keyIs_len h2
  have lp := madeP_len hL
  have lq := madeP_len hM
  have h1 : ref01_MadePlace NN (X, ((Int.tmod t (3 : Int)), N)) = some (P, T, n, m) := h1
  simp only [law01_PathMoves, sanity1, Made_eq hL, Made_eq hM, h1, h5]
  cases d1 : decide ((300 : Int) < (s.length : Int))
  · have d1 := of_decide_eq_false d1
    simp only [cond_false]
    cases e1 : eqs (madeP L) []
    · cases e2 : eqs (madeP M) []
      · simp only [cond_false]
        rw [gd_p (by simp only [maxS]; omega)]
        have n1 : joinP (madeN L) ≠ [] := fun e => by rw [show madeP L = [] from e, eqs_self] at e1; cases e1
        have n2 : joinP (madeN M) ≠ [] := fun e => by rw [show madeP M = [] from e, eqs_self] at e2; cases e2
        have := moves_l0 (madeN_name hL) (madeN_name hM) n1 n2 s k (s ++ k) (by show (madeP L).length < 1000; omega) (by show (madeP M).length < 1000; omega) (by omega) (by omega) (by simp; omega)
        have this : law01_PathMoves_l0 NN NN true (madeP L) (madeP M) 0 s k (s ++ k) = _ := this
        rw [this]
      · rfl
    · rfl
  · rfl
end Ds
