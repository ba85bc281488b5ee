/- What messages do to tables. -/
import Derived.Test.YtpgikdaeicidaaaGreatDoorDsPure
import Derived.Test.YtpgikdaeicidaaaGreatDoorDvD
import Derived.Test.YtpgikdaeicidaaaGreatDoorDvE
import Derived.Test.YtpgikdaeicidaaaGreatDoorDsMsgs
import Derived.Test.YtpgikdaeicidaaaGreatDoorDsValid
set_option linter.all false
namespace Ds
open Go Go.Dv
set_option maxRecDepth 100000
set_option linter.unusedVariables false
theorem xe3 (N : Nat) (p : Pr) (k : B) : zf6 N p k = some (cmpS p.1 k) := rfl
theorem xca (N : Nat) {t : List Pr} (k : B) (hs : Srt t) (hl : t.length < 1000000000) (x : Int) : ∀ n i j : Nat, i ≤ cnt t k → cnt t k ≤ j → j ≤ t.length → j - i < n →
    X1 N n t k x (i : Int) (j : Int) = some ((t, (k, ((), (x, (cnt t k : Int))))), ())
  | 0, _, _, _, _, _, h => absurd h (Nat.not_lt_zero _)
  | n + 1, i, j, h1, h2, h3, h4 => by
    rw [k8]
    simp only [W5, half (i := i) (j := j) (by omega)]
    by_cases h : i < j
    · rw [z9u (by simp; omega)]
      have hm : (i + j) / 2 < t.length := by omega
      have hg : t[(i + j) / 2]? = some (t[(i + j) / 2]'hm) := List.getElem?_eq_getElem hm
      have hr : rdL t (((i + j) / 2 : Nat) : Int) X8 = t[(i + j) / 2]'hm := xbi (by omega) (by rw [Int.toNat_natCast]; exact hg)
      have hc := hs.lt_cnt (k := k) hg
      rw [gd_p (show (0 : Int) ≤ 1 by decide), gd_t (z6t (by omega) (by omega)), hr, xe3]
      simp only
      rw [x7s]
      cases e : lts (t[(i + j) / 2]'hm).1 k
      · rw [e] at hc
        have : cnt t k ≤ (i + j) / 2 := by
          rcases Nat.lt_or_ge ((i + j) / 2) (cnt t k) with g | g
          · have := hc.2 g; cases this
          · exact g
        exact xca N k hs hl x n i ((i + j) / 2) h1 this (by omega) (by omega)
      · have := hc.1 e
        rw [cond_true, w64 (by omega) (by omega)]
        exact xca N k hs hl x n ((i + j) / 2 + 1) j (by omega) h2 h3 (by omega)
    · have : i = cnt t k := by omega
      rw [z5e (by simp; omega), this]
theorem yve (N : Nat) {t : List Pr} (k : B) (hs : Srt t) (hN : t.length < N) (hl : t.length < 1000000000) : ze3 N t k = some ((cnt t k : Int), hitB t k) := by
  have h := xca N k hs hl (t.length : Int) N 0 t.length (Nat.zero_le _) (yxy t k) (Nat.le_refl _) (by omega)
  have hz : ((0 : Nat) : Int) = 0 := rfl
  rw [hz] at h
  simp only [ze3, W9, h]
  have hc := yxy t k
  by_cases e : cnt t k < t.length
  · rw [z9u (by simp; omega), gd_t (z6t (by omega) (by omega))]
    have hg : t[cnt t k]? = some (t[cnt t k]'e) := List.getElem?_eq_getElem e
    have hr : rdL t (cnt t k : Int) X8 = t[cnt t k]'e := xbi (by omega) (by rw [Int.toNat_natCast]; exact hg)
    rw [hr, xe3]
    simp only [x7t, hitB, hg]
  · rw [z5e (by simp; omega)]
    have hg : t[cnt t k]? = none := List.getElem?_eq_none (by omega)
    simp only [hitB, hg]
theorem yzg (N : Nat) {t : List Pr} (s : Z7) (hs : Srt t) (hN : t.length < N) (hl : t.length < 1000000000) : zfc N t s = some ((loB t s : Int), (hiB t s : Int)) := by
  simp only [zfc, xal, loB, hiB, yve N s.1 hs hN hl, yve N s.2 hs hN hl]
  cases emptyB s
  · cases eqs s.2 [] <;> rfl
  · rfl
theorem xb6 (N : Nat) {t : List Pr} (s : Z7) (hs : Srt t) (hN : t.length < N) (hl : t.length < 1000000000) : zq2 N t s = some (t.filter (fun p => hasB s p.1)) := by
  have := xc5 hs s
  simp only [zq2, yzg N s hs hN hl]
  rw [gd_t (by simp [eqi]; omega), x8l hs]
theorem xdn (N : Nat) (a b : List Pr) (hN : 2 < N) (ha : a.length < 1000000000) (hb : b.length < 1000000000) : w5 N [a, b] = some (a ++ b) := by
  obtain ⟨n, rfl⟩ : ∃ n, N = n + 3 := ⟨N - 3, by omega⟩
  have h0 : Q6 (n + 3) (n + 3) [a, b] (0 : Int) [a, b] (([a, b] : List (List Pr)).length : Int) (0 : Int) = some (([a, b], ((a.length + b.length : Nat) : Int)), ()) := by
    have e1 : IntKind.wrap .i64 ((0 : Int) + (a.length : Int)) = (a.length : Int) := by rw [w64 (by omega) (by omega)]; omega
    have e2 : IntKind.wrap .i64 ((a.length : Int) + (b.length : Int)) = ((a.length + b.length : Nat) : Int) := by rw [w64 (by omega) (by omega)]; omega
    have e3 : IntKind.wrap .i64 ((0 : Int) + (1 : Int)) = 1 := by decide
    have e4 : IntKind.wrap .i64 ((1 : Int) + (1 : Int)) = 2 := by decide
    have r0 : rdL [a, b] (0 : Int) ([] : List Pr) = a := rfl
    have r1 : rdL [a, b] (1 : Int) ([] : List Pr) = b := rfl
    have l2 : (([a, b] : List (List Pr)).length : Int) = 2 := rfl
    rw [y7]
    simp only [V8, l2, r0, e1, e3]
    rw [z9u (by decide), gd_t (by rfl), z5e (by simp), y7]
    simp only [V8, r1, e2, e4]
    rw [z9u (by decide), gd_t (by rfl), z5e (by simp; omega), y7]
    simp only [V8]
    rw [z5e (by decide)]
  have h1 : Q5 (n + 3) (n + 3) [a, b] (([a, b] : List (List Pr)).length : Int) (0 : Int) [] = some ((), (a ++ b, ())) := by
    have e3 : IntKind.wrap .i64 ((0 : Int) + (1 : Int)) = 1 := by decide
    have e4 : IntKind.wrap .i64 ((1 : Int) + (1 : Int)) = 2 := by decide
    have r0 : rdL [a, b] (0 : Int) ([] : List Pr) = a := rfl
    have r1 : rdL [a, b] (1 : Int) ([] : List Pr) = b := rfl
    have l2 : (([a, b] : List (List Pr)).length : Int) = 2 := rfl
    rw [y6]
    simp only [V7, l2, r0, e3]
    rw [z9u (by decide), gd_t (by rfl), gd_t (z8e (by simp; omega) (by omega)), y6]
    simp only [V7, r1, e4]
    rw [z9u (by decide), gd_t (by rfl), gd_t (z8e (by simp; omega) (by omega)), y6]
    simp only [V7]
    rw [z5e (by decide)]
    simp
  simp only [w5, h0, z4n]
  rw [gd_t (by simp only [Int.toNat_natCast, Bool.and_eq_true, decide_eq_true_eq]; exact ⟨by omega, z8e (by omega) (by omega)⟩)]
  simp only [h1]
theorem yv5 (N : Nat) {t : List Pr} (s : Z7) (hs : Srt t) (hN : t.length + 2 < N) (hl : t.length < 1000000000) : zdy N t s = some (t.filter (fun p => !(hasB s p.1))) := by
  have h := xc5 hs s
  simp only [zdy, yzg N s hs (by omega) hl]
  rw [gd_t (by simp; omega), gd_t (by simp; omega)]
  have c1 : cut2 t (0 : Int) (loB t s : Int) = t.take (loB t s) := by simp [cut2]
  have c2 : cut2 t (hiB t s : Int) (t.length : Int) = t.drop (hiB t s) := by
    simp only [cut2, Int.toNat_natCast]
    exact List.take_of_length_le (by simp)
  rw [c1, c2, xdn N _ _ (by omega) (by simp; omega) (by simp; omega), x5k hs]
theorem xev (N : Nat) {t : List Pr} (p : Pr) (hs : Srt t) (hN : t.length < N) (hl : t.length < 1000000000) : y6s N t p = some (insT p t) := by
  have hc := yxy t p.1
  simp only [y6s, yve N p.1 hs hN hl, V5]
  rw [gd_t (z8e (by omega) (by omega))]
  simp only
  cases e : hitB t p.1
  · simp only [cond_false, z0r]
    rw [gd_t (by simp only [Bool.and_eq_true, decide_eq_true_eq, List.length_cons, List.length_nil]; exact ⟨by omega, by omega, rfl, z8e (by omega) (by omega)⟩)]
    simp only [insL, Int.toNat_natCast, insT, (hs.take_cnt p.1).1, (hs.take_cnt p.1).2, xf2 hs _ e]
    simp
  · have hlt : cnt t p.1 < t.length := by
      rcases Nat.lt_or_ge (cnt t p.1) t.length with g | g
      · exact g
      · unfold hitB at e; rw [List.getElem?_eq_none g] at e; cases e
    simp only [cond_true]
    rw [gd_t (z6t (by omega) (by omega))]
    simp only [setL, Int.toNat_natCast, insT, ← xag hs p e, ← (hs.take_cnt p.1).1]
    rw [List.set_eq_take_append_cons_drop, if_pos hlt]
theorem yi0 (N : Nat) : ∀ (n : Nat) (a b out : List Pr), a.length + b.length < n → out.length + a.length + b.length < 1000000000 →
    ∃ a' b' o', z7j N n a b out = some ((a', (b', ())), (o', ())) ∧ o' ++ a' ++ b' = out ++ mrg n a b ∧ o'.length + a'.length + b'.length < 1000000000
  | 0, _, _, _, h, _ => absurd h (Nat.not_lt_zero _)
  | n + 1, [], b, out, h, hl => ⟨[], b, out, by rw [zbw]; rfl, by simp [mrg], hl⟩
  | n + 1, p :: a, [], out, h, hl => ⟨p :: a, [], out, by rw [zbw]; simp only [z6m]; rw [z5e (by simp [eqi]; omega)]; rfl, by simp [mrg], hl⟩
  | n + 1, p :: a, q :: b, out, h, hl => by
    simp only [List.length_cons] at h hl
    rw [zbw]
    simp only [z6m, xcp, xao]
    have z1 : inB 0 (p :: a).length = true := z6t (by omega) (by simp only [List.length_cons]; omega)
    have z2 : inB 0 (q :: b).length = true := z6t (by omega) (by simp only [List.length_cons]; omega)
    have z3 : (decide (0 ≤ (1 : Int)) && (decide ((1 : Int) ≤ ((p :: a).length : Int)) && decide (((p :: a).length : Int) ≤ ((p :: a).length : Int)))) = true := by simp; omega
    have z4 : (decide (0 ≤ (1 : Int)) && (decide ((1 : Int) ≤ ((q :: b).length : Int)) && decide (((q :: b).length : Int) ≤ ((q :: b).length : Int)))) = true := by simp; omega
    have z5 : ∀ x : Pr, fits (out.length + ([x] : List Pr).length) 40 = true := fun x => z8e (by simp; omega) (by omega)
    rw [z5e (by simp [eqi]; omega), z5e (by simp [eqi]; omega), gd_t z1, gd_t z2]
    simp only [mrg]
    cases e : lts p.1 q.1
    · rw [cond_false, gd_t z1, gd_t z2]
      cases e2 : eqs p.1 q.1
      · rw [cond_false, gd_t z2, gd_t (z5 q), gd_t z4]
        obtain ⟨a', b', o', i1, i2, i3⟩ := yi0 N n (p :: a) b (out ++ [q]) (by simp; omega) (by simp; omega)
        exact ⟨a', b', o', i1, by rw [i2]; simp, i3⟩
      · rw [cond_true, gd_t z3, gd_t z2, gd_t (z5 q), gd_t z4]
        obtain ⟨a', b', o', i1, i2, i3⟩ := yi0 N n a b (out ++ [q]) (by omega) (by simp; omega)
        exact ⟨a', b', o', i1, by rw [i2]; simp, i3⟩
    · rw [cond_true, gd_t z1, gd_t (z5 p), gd_t z3]
      obtain ⟨a', b', o', i1, i2, i3⟩ := yi0 N n a (q :: b) (out ++ [p]) (by simp; omega) (by simp; omega)
      exact ⟨a', b', o', i1, by rw [i2]; simp, i3⟩
theorem xb5 (N : Nat) {a b : List Pr} (ha : Srt a) (hb : Srt b) (hN : a.length + b.length < N) (hl : a.length + b.length < 1000000000) : zq1 N a b = some (uniT a b) := by
  have e1 : IntKind.wrap .i64 ((a.length : Int) + (b.length : Int)) = ((a.length + b.length : Nat) : Int) := by rw [w64 (by omega) (by omega)]; omega
  obtain ⟨a', b', o', i1, i2, i3⟩ := yi0 N N a b [] hN (by simp; omega)
  obtain ⟨m1, m2, _⟩ := yuu N ha hb hN
  have i1' : z7j N N a b (List.replicate (Int.toNat (0 : Int)) X8) = some ((a', (b', ())), (o', ())) := i1
  simp only [zq1, e1, i1']
  have x1 : ((a.length + b.length : Nat) : Int) < (maxB : Int) := by simp only [maxB]; omega
  have x2 : ((a.length + b.length : Nat) : Int) * 40 < (maxB : Int) := by simp only [maxB]; omega
  rw [gd_t (by rw [decide_eq_true x1, decide_eq_true x2, decide_eq_true (show (0 : Int) ≤ ((a.length + b.length : Nat) : Int) by omega)]; rfl), gd_t (z8e (by omega) (by omega)), gd_t (z8e (by simp; omega) (by omega))]
  rw [i2, List.nil_append]
  exact congrArg some (Srt.ext m2 (x9n b ha) fun k => by rw [m1, x9o hb]; cases fnd b k <;> rfl)
theorem xb7 (N : Nat) (k p q : B) (hk : k.length < 1000000000) (hq : q.length < 1000000000) : zvi N k p q = some (bif p.isPrefixOf k then (q ++ k.drop p.length, true) else ([], false)) := by
  simp only [zvi, x0x]
  cases e : p.isPrefixOf k
  · rfl
  · simp only [cond_true, Bool.not_true, cond_false]
    rw [gd_p (by simp only [maxS, List.length_drop]; omega)]
theorem x4d (N : Nat) (p q : B) (hq : q.length < 1000000000) : ∀ (post pre : List Pr) (n : Nat), post.length < n → (pre ++ post).length < 1000000000 → (∀ x ∈ post, p.isPrefixOf x.1 = true ∧ x.1.length < 1000000000) →
    zfe N n p q ((pre ++ post).length : Int) (pre.length : Int) (pre ++ post) = some ((), (pre ++ post.map (fun x => (q ++ x.1.drop p.length, x.2)), ()))
  | _, _, 0, h, _, _ => absurd h (Nat.not_lt_zero _)
  | [], pre, n + 1, _, _, _ => by
    rw [zod]
    simp only [z9s, List.append_nil, Int.lt_irrefl, decide_false, cond_false, List.map_nil]
  | x :: post, pre, n + 1, hn, hl, hx => by
    obtain ⟨h1, h2⟩ := hx x (by simp)
    simp only [List.length_cons] at hn
    have hl' : pre.length < 9223372036854775807 := by simp at hl; omega
    rw [zod]
    simp only [z9s, zk3, z7m, cond_true, z3n, yuc, xb7 N x.1 p q h2 hq, h1]
    rw [gd_t rfl, gd_t rfl, zjw (q := (q ++ x.1.drop p.length, x.2)) hl']
    have ih := x4d N p q hq post (pre ++ [(q ++ x.1.drop p.length, x.2)]) n (by omega) (by simp at hl ⊢; omega) (fun y hy => hx y (by simp [hy]))
    have e : ((pre ++ x :: post).length : Int) = ((pre ++ [(q ++ x.1.drop p.length, x.2)] ++ post).length : Int) := by simp
    rw [e, z2j (pre := pre) (q := (q ++ x.1.drop p.length, x.2)) (post := post), ih]
    simp
theorem x3n (a : UInt8) : ∀ r : B, upR (r ++ [a]) = bif eqs (upR r) [] then upR [a] else upR r ++ [a]
  | [] => rfl
  | b :: r => by
    show (bif b == 255 then upR (r ++ [a]) else (b + 1) :: (r ++ [a])) = bif eqs (bif b == 255 then upR r else (b + 1) :: r) [] then upR [a] else (bif b == 255 then upR r else (b + 1) :: r) ++ [a]
    cases e : b == 255
    · simp only [cond_false]; rw [z6c (by simp)]; rfl
    · simp only [cond_true]; exact x3n a r
def upF (p : B) : B := (upR p.reverse).reverse
theorem x9m (a : UInt8) (p : B) : upF (a :: p) = bif eqs (upF p) [] then upR [a] else a :: upF p := by
  unfold upF
  rw [List.reverse_cons, x3n]
  have e : eqs (upR p.reverse) [] = eqs (upR p.reverse).reverse [] := by
    rw [Bool.eq_iff_iff, z1d, z1d, List.reverse_eq_nil_iff]
  rw [e]
  cases eqs (upR p.reverse).reverse []
  · simp
  · simp only [cond_true]
    show (bif a == 255 then ([] : B) else [a + 1]).reverse = (bif a == 255 then [] else [a + 1])
    cases a == 255 <;> rfl
theorem y75 : ∀ (p k : B), hasB (preS p) k = p.isPrefixOf k
  | [], k => by
    have : preS [] = ([], []) := rfl
    rw [this]; simp [hasB, zz0]
  | a :: p, [] => by
    have : lts [] (a :: p) = true := rfl
    simp only [hasB, preS, this, Bool.not_true, cond_false]; rfl
  | a :: p, b :: k => by
    have ih := y75 p k
    show (bif !(lts (b :: k) (a :: p)) then (bif eqs (upF (a :: p)) [] then true else lts (b :: k) (upF (a :: p))) else false) = _
    have ih : (bif !(lts k p) then (bif eqs (upF p) [] then true else lts k (upF p)) else false) = p.isPrefixOf k := ih
    rw [x9m, List.isPrefixOf_cons₂, ← ih, z8a]
    rcases u8_tri a b with h | rfl | h
    · have h2 : ¬ b < a := fun g => UInt8.lt_irrefl _ (UInt8.lt_trans h g)
      have h3 : (b == a) = false := by simp; rintro rfl; exact h2 h
      have h4 : (a == b) = false := by simp; rintro rfl; exact h2 h
      have h5 : (a == 255) = false := by
        simp; rintro rfl; have : (255 : UInt8).toNat < b.toNat := h; have := b.toNat_lt; simp at *; omega
      cases e : eqs (upF p) []
      · simp only [cond_false, z8a]
        rw [z6c (show a :: upF p ≠ [] by simp)]
        simp [h2, h3, h4]
      · have : upR [a] = [a + 1] := by show (bif a == 255 then upR [] else [a + 1]) = _; rw [h5]; rfl
        simp only [cond_true, this]
        rw [z6c (show [a + 1] ≠ [] by simp)]
        have ha : (a + 1).toNat = a.toNat + 1 := by
          have hh : a.toNat < b.toNat := h
          have := b.toNat_lt
          rw [UInt8.toNat_add]; simp; omega
        have g : ¬ b < a + 1 := by
          intro g
          have g : b.toNat < (a + 1).toNat := g
          have hh : a.toNat < b.toNat := h
          omega
        simp [h2, h3, h4, z8a, g, zz0]
    · simp only [UInt8.lt_irrefl, decide_false, Bool.false_or, beq_self_eq_true, Bool.true_and]
      cases e : eqs (upF p) []
      · simp only [cond_false, z8a, UInt8.lt_irrefl, decide_false, Bool.false_or, beq_self_eq_true, Bool.true_and]
        rw [z6c (show a :: upF p ≠ [] by simp)]
        rfl
      · simp only [cond_true]
        cases e5 : a == 255
        · have : upR [a] = [a + 1] := by show (bif a == 255 then upR [] else [a + 1]) = _; rw [e5]; rfl
          rw [this, z6c (show [a + 1] ≠ [] by simp)]
          have hne : a.toNat ≠ 255 := fun h => by
            have : a = 255 := UInt8.toNat_inj.1 h
            rw [this] at e5; cases e5
          have ha : (a + 1).toNat = a.toNat + 1 := by
            have := a.toNat_lt
            rw [UInt8.toNat_add]; simp; omega
          have g : a < a + 1 := by show a.toNat < (a + 1).toNat; omega
          simp [z8a, g]
        · have : upR [a] = [] := by show (bif a == 255 then upR [] else [a + 1]) = _; rw [e5]; rfl
          rw [this]
          simp
    · have h2 : ¬ a < b := fun g => UInt8.lt_irrefl _ (UInt8.lt_trans h g)
      have h4 : (a == b) = false := by simp; rintro rfl; exact h2 h
      simp [h, h4]
theorem x8i {t : List Pr} {p q : B} (hp : p.length < 100000) (hq : q.length < 1000000000) (hs : Srt t) (hN : t.length < 900000000) (hk : ∀ x ∈ t, x.1.length < 1000000000) : y70 NN t p q = some (mvd p q t) := by
  have hf := List.length_filter_le (fun x : Pr => p.isPrefixOf x.1) t
  have er : t.filter (fun x => hasB (preS p) x.1) = t.filter (fun x => p.isPrefixOf x.1) := List.filter_congr fun x _ => y75 p x.1
  have h := x4d NN p q hq (t.filter fun x => p.isPrefixOf x.1) [] NN (by simp only [NN]; omega) (by simp only [List.nil_append]; omega) (fun x hx => ⟨(List.mem_filter.1 hx).2, hk x (List.mem_filter.1 hx).1⟩)
  have hz : (([] : List Pr).length : Int) = 0 := rfl
  simp only [List.nil_append, hz] at h
  simp only [y70, zv0 p hp, xb6 NN (preS p) hs (by simp only [NN]; omega) (by omega), er, V5]
  rw [gd_t (z8e (by omega) (by omega))]
  simp only [h]
  rfl
theorem x3t (N : Nat) (s : B × B) (a : Int) (b c d e : B) (v : Int) : ∀ (post pre : List Pr) (n : Nat), post.length < n → (pre ++ post).length < 1000000000 →
    z53 N n ((pre ++ post).length : Int) (pre.length : Int) a b c s.1 s.2 d e v (pre ++ post) = some ((), (pre ++ post.map (stp s v), ()))
  | _, _, 0, h, _ => absurd h (Nat.not_lt_zero _)
  | [], pre, n + 1, _, _ => by
    rw [zdr]
    simp only [z48, List.append_nil, Int.lt_irrefl, decide_false, cond_false, List.map_nil]
  | x :: post, pre, n + 1, hn, hl => by
    simp only [List.length_cons] at hn
    have hl' : pre.length < 9223372036854775807 := by simp at hl; omega
    rw [zdr]
    simp only [z48, zk3, z7m, cond_true, z3n, yuc, xew]
    rw [gd_t rfl]
    have ih := fun y : Pr => x3t N s a b c d e v post (pre ++ [y]) n (by omega) (by simp at hl ⊢; omega)
    have el : ∀ y : Pr, ((pre ++ x :: post).length : Int) = ((pre ++ [y] ++ post).length : Int) := fun y => by simp
    cases e1 : hasB s x.1
    · rw [cond_false, zjw (q := x) hl', el x, z2j (pre := pre) (q := x) (post := post), ih x]
      simp [stp, e1]
    · rw [cond_true, gd_t rfl, zjw (q := (x.1, x.2.1, v)) hl', el (x.1, x.2.1, v), z2j (pre := pre) (q := (x.1, x.2.1, v)) (post := post), ih]
      simp [stp, e1]
section one
variable {n L : Nat} {t : List Pr} (h : Ok n L t) (hn : n < 900000000) (hL : L < 1000000)
include h hn
theorem xed (k v : B) (x : Int) : z3z NN t (yqn k v x) = some (insT (k, v, x) t) := by
  have hl := h.len
  have hp := xev NN (k, v, x) h.srt (by first | omega | (simp only [NN]; omega)) (by first | omega | (simp only [NN]; omega))
  have e : zk2 NN (yqn k v x) = some (.inl (yqn k v x)) := rfl
  simp only [z3z, e, zqp, hp]
theorem xde (s : B × B) : z3z NN t (yux s) = some (t.filter fun p => !(hasB s p.1)) := by
  have hl := h.len
  have hp := yv5 NN s h.srt (by first | omega | (simp only [NN]; omega)) (by first | omega | (simp only [NN]; omega))
  have e : zk2 NN (yux s) = some (.inr (.inr (.inl (yux s)))) := rfl
  simp only [z3z, e, zmb, hp]
theorem xeo {k : B} (hk : k.length < 1000000) : z3z NN t (yhu k) = some (t.filter fun p => !(hasB (k, k ++ [0]) p.1)) := by
  have hl := h.len
  have hp := yv5 NN (k, k ++ [0]) h.srt (by first | omega | (simp only [NN]; omega)) (by first | omega | (simp only [NN]; omega))
  have e : zk2 NN (yhu k) = some (.inr (.inl (yhu k))) := rfl
  have e2 : zj4 NN k = some (k, k ++ [0]) := by
    simp only [zj4]
    rw [gd_p (by simp only [maxS, List.length_cons, List.length_nil]; omega)]
  simp only [z3z, e, zqr, ylr, e2, hp]
theorem x9t (s : B × B) (x : Int) : z3z NN t (yi2 s x) = some (t.map (stp s x)) := by
  have hl := h.len
  have e : zk2 NN (yi2 s x) = some (.inr (.inr (.inr (.inr (.inr (.inl (yi2 s x))))))) := rfl
  have hp := x3t NN s 6 [] [] [] [] x t [] NN (by first | omega | (simp only [NN]; omega)) (by simp only [List.nil_append]; omega)
  have hz : (([] : List Pr).length : Int) = 0 := rfl
  simp only [List.nil_append, hz] at hp
  simp only [z3z, e, zio, V5]
  rw [gd_t (z8e (by first | omega | (simp only [NN]; omega)) (by first | omega | (simp only [NN]; omega)))]
  simp only [hp]
end one
def z8f (p q : B) (t : List Pr) : List Pr := uniT (t.filter fun x => !(q.isPrefixOf x.1)) (mvd p q t)
def appV (m : Mg) (t : List Pr) : List Pr :=
  bif eqi m.1 1 then insT (m.2.1, m.2.2.1, m.2.2.2.2.2.2) t else
  bif eqi m.1 2 then t.filter (fun p => !(eqs m.2.1 p.1)) else
  bif eqi m.1 3 then t.filter (fun p => !(hasB m.2.2.2.1 p.1)) else
  bif eqi m.1 4 then (z8f m.2.2.2.2.1 m.2.2.2.2.2.1 t).filter (fun x => !(m.2.2.2.2.1.isPrefixOf x.1)) else
  bif eqi m.1 5 then z8f m.2.2.2.2.1 m.2.2.2.2.2.1 t else
  bif eqi m.1 6 then t.map (stp m.2.2.2.1 m.2.2.2.2.2.2) else t
section two
variable {n L : Nat} {t : List Pr} (h : Ok n L t) (hn : n < 100000000) (hL : L < 1000000) {p q : B} (hp : p.length ≤ 200) (hq : q.length ≤ 200)
include h hn hL hp hq
theorem yzd {k : Int} : z8v NN (mv k (p, q)) t = some (z8f p q t) := by
  have hl := h.len
  have hd := yv5 NN (preS q) h.srt (by simp only [NN]; omega) (by omega)
  have hm := x8i (t := t) (p := p) (q := q) (by omega) (by omega) h.srt (by omega) (fun x hx => by have := h.key x hx; omega)
  have er : t.filter (fun x => !(hasB (preS q) x.1)) = t.filter (fun x => !(q.isPrefixOf x.1)) := List.filter_congr fun x _ => by rw [y75 q x.1]
  rw [er] at hd
  have a1 := h.filter fun x => !(q.isPrefixOf x.1)
  have a2 := h.mvd p q
  have hu := xb5 NN a1.srt a2.srt (by have := a1.len; have := a2.len; simp only [NN]; omega) (by have := a1.len; have := a2.len; omega)
  simp only [z8v, zv0 q (show q.length < 100000 by omega), hd, hm, hu]
  rfl
theorem x0y : Ok (2 * n) (L + 200) (z8f p q t) := by
  have hl := h.len
  have hm := h.mvd p q
  exact (((h.filter fun x => !(q.isPrefixOf x.1)).mono (Nat.le_refl _) (show L ≤ L + 200 by omega)).uniT (m := n) hm.len (fun x hx => by have := hm.key x hx; omega)).mono (by omega) (Nat.le_refl _)
theorem x8z : z3z NN t (mv 5 (p, q)) = some (z8f p q t) := by
  have e1 : zk2 NN (mv 5 (p, q)) = some (.inr (.inr (.inr (.inr (.inl (mv 5 (p, q))))))) := rfl
  simp only [z3z, e1, yzd h hn hL hp hq]
theorem xa7 : z3z NN t (mv 4 (p, q)) = some ((z8f p q t).filter fun x => !(p.isPrefixOf x.1)) := by
  have e1 : zk2 NN (mv 4 (p, q)) = some (.inr (.inr (.inr (.inl (mv 4 (p, q)))))) := rfl
  have hu := x0y h hn hL hp hq
  have hul := hu.len
  have hd := yv5 NN (preS p) hu.srt (by simp only [NN]; omega) (by omega)
  have er : (z8f p q t).filter (fun x => !(hasB (preS p) x.1)) = (z8f p q t).filter (fun x => !(p.isPrefixOf x.1)) := List.filter_congr fun x _ => by rw [y75 p x.1]
  rw [er] at hd
  simp only [z3z, e1, zm9, yzd h hn hL hp hq, zv0 p (show p.length < 100000 by omega), hd]
end two
theorem x6k {n L : Nat} {t : List Pr} (h : Ok n L t) (hn : n < 100000000) (h7 : 65535 ≤ L) (hL : L < 1000000) {m : Mg} (hm : vldB m = true) : z3z NN t m = some (appV m t) ∧ Ok (2 * n + 1) (L + 200) (appV m t) := by
  have hl := h.len
  rcases vld_cases hm with ⟨k, v, x, rfl, h1, h2, h3, h4, h5⟩ | ⟨k, rfl, h1, h2⟩ | ⟨s, rfl, hs⟩ | ⟨k, ⟨p, q⟩, rfl, hk, hs⟩ | ⟨s, x, rfl, hs, h4, h5⟩
  · exact ⟨xed h (by omega) k v x, (h.insT (by simp only; omega)).mono (by omega) (by omega)⟩
  · have e : t.filter (fun p => !(hasB (k, k ++ [0]) p.1)) = t.filter (fun p => !(eqs k p.1)) := List.filter_congr fun x _ => by rw [xcy]
    have := xeo h (by omega) (k := k) (by omega)
    rw [e] at this
    exact ⟨this, (h.filter _).mono (by omega) (by omega)⟩
  · exact ⟨xde h (by omega) s, (h.filter _).mono (by omega) (by omega)⟩
  · have := zwi hs
    simp only at this
    obtain ⟨⟨_, p2⟩, _, q2⟩ := this
    rcases hk with rfl | rfl
    · exact ⟨xa7 h hn hL p2 q2, ((x0y h hn hL p2 q2).filter _).mono (by omega) (Nat.le_refl _)⟩
    · exact ⟨x8z h hn hL p2 q2, (x0y h hn hL p2 q2).mono (by omega) (Nat.le_refl _)⟩
  · have ek : ∀ p, (stp s x p).1 = p.1 := fun p => by unfold stp; cases hasB s p.1 <;> rfl
    refine ⟨x9t h (by omega) s x, h.srt.map ek, ?_, fun p hp => ?_⟩
    · show (t.map _).length ≤ _; rw [List.length_map]; omega
    · obtain ⟨q, hq, rfl⟩ := List.mem_map.1 hp
      have := h.key q hq
      rw [ek]; omega
def yv3 (ms : List Mg) (t : List Pr) : List Pr := ms.foldl (fun t m => appV m t) t
theorem x80 : ∀ (post pre : List Mg) (n : Nat) (a L : Nat) (t : List Pr), post.length < n → (pre ++ post).length < 1000 → Ok a L t → (a + 1) * 2 ^ post.length ≤ 50000000 → 65535 ≤ L → L + 200 * post.length < 1000000 → (∀ m ∈ post, vldB m = true) →
    znd NN n t (pre ++ post) ((pre ++ post).length : Int) (pre.length : Int) = some (yv3 post t, ()) ∧ Ok ((a + 1) * 2 ^ post.length) (L + 200 * post.length) (yv3 post t)
  | _, _, 0, _, _, _, h, _, _, _, _, _, _ => absurd h (Nat.not_lt_zero _)
  | [], pre, n + 1, a, L, t, _, _, ho, _, _, _, _ => by
    rw [zvw]
    refine ⟨?_, ho.mono (by simp) (by simp)⟩
    simp only [zct, List.append_nil, Int.lt_irrefl, decide_false, cond_false]
    rfl
  | m :: post, pre, n + 1, a, L, t, hn, hl, ho, hs, h7, hL, hv => by
    simp only [List.length_cons] at hn hL hs
    have hl' : pre.length < 9223372036854775807 := by simp at hl; omega
    have e : (2 : Nat) ^ (post.length + 1) = 2 * 2 ^ post.length := by rw [Nat.pow_succ]; omega
    have hp : 0 < (2 : Nat) ^ post.length := Nat.pow_pos (by omega)
    have hn1 : a + 1 ≤ (a + 1) * 2 ^ (post.length + 1) := Nat.le_mul_of_pos_right _ (by rw [e]; omega)
    have e2 : (2 * a + 1 + 1) * 2 ^ post.length = (a + 1) * 2 ^ (post.length + 1) := by
      rw [e, show 2 * a + 1 + 1 = (a + 1) * 2 by omega, Nat.mul_assoc]
    obtain ⟨a1, a2⟩ := x6k ho (by omega) h7 (by omega) (hv m (by simp))
    obtain ⟨i1, i2⟩ := x80 post (pre ++ [m]) n (2 * a + 1) (L + 200) _ (by omega) (by simpa using hl) a2 (by rw [e2]; exact hs) (by omega) (by omega) (fun x hx => hv x (by simp [hx]))
    refine ⟨?_, i2.mono (by rw [e2]; simp) (by simp only [List.length_cons]; omega)⟩
    rw [zvw]
    simp only [zct, zk3, z7m, cond_true, z3n, a1]
    rw [gd_t rfl, zjw (q := m) hl', z2j, i1]
    rfl
theorem xds {ms : List Mg} {t : List Pr} {a L : Nat} (ho : Ok a L t) (hs : (a + 1) * 2 ^ ms.length ≤ 50000000) (h7 : 65535 ≤ L) (hL : L + 200 * ms.length < 1000000) (hn : ms.length < 1000) (hv : ∀ m ∈ ms, vldB m = true) : yut NN t ms = some (yv3 ms t) ∧ Ok ((a + 1) * 2 ^ ms.length) (L + 200 * ms.length) (yv3 ms t) := by
  obtain ⟨h, h'⟩ := x80 ms [] NN a L t (by simp only [NN]; omega) (by simpa using hn) ho hs h7 hL hv
  have hz : (([] : List Mg).length : Int) = 0 := rfl
  simp only [List.nil_append, hz] at h
  simp only [yut, h]
  exact ⟨trivial, h'⟩
end Ds
