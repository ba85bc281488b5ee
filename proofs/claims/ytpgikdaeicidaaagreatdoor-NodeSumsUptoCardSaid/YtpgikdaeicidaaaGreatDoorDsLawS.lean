/- NodeSums: the use of all kids together, after the messages, is within the bounds of the node. -/
import Derived.Test.YtpgikdaeicidaaaGreatDoorDsSums
import Derived.Test.YtpgikdaeicidaaaGreatDoorDsMade
import Derived.Test.YtpgikdaeicidaaaGreatDoorDsSpans
set_option linter.all false
namespace Ds
open Go Go.Dv
set_option maxRecDepth 100000
set_option linter.unusedVariables false
theorem xez {x : Pr} (h : x.1.length < 600000000) : Pa.cI x = cI x ∧ Pa.cB x = cB x := by
  unfold Pa.cI Pa.cB
  rw [x90 x h]; exact ⟨rfl, rfl⟩
theorem xc2 : ∀ {t : List Pr}, (∀ x ∈ t, x.1.length < 600000000) → Pa.sI t = sm cI t ∧ Pa.sB' t = sm cB t
  | [], _ => ⟨rfl, rfl⟩
  | x :: r, h => by
    obtain ⟨h1, h2⟩ := xez (h x (by simp))
    obtain ⟨h3, h4⟩ := xc2 (t := r) (fun y hy => h y (by simp [hy]))
    exact ⟨by simp only [Pa.sI, sm]; rw [h1, h3], by simp only [Pa.sB', sm]; rw [h2, h4]⟩
theorem x53 {n L : Nat} {t : List Pr} (ho : Ok n L t) (vb : VB t) (hn : n < 1000000000) (hL : L < 600000000) : z65 NN t = some (sm cI t, sm cB t) := by
  have hk : ∀ x ∈ t, x.1.length < 600000000 := fun x hx => by have := ho.key x hx; omega
  rw [Pa.total_ok (by have := ho.len; omega) (fun x hx => ⟨hk x hx, by have := vb x hx; omega⟩), (xc2 hk).1, (xc2 hk).2]
theorem x45 (a b : Sp) : zn7 NN a b = some (yny a b) := by
  have e : zvp NN = some ([97], [97]) := rfl
  simp only [zn7, x7d, y31, yny, x1x, x9g, e]
  cases lessB b.2 a.2
  · simp only [cond_false]
    cases emptyB (bif !(lts a.1 b.1) then a.1 else b.1, a.2) <;> rfl
  · simp only [cond_true]
    cases emptyB (bif !(lts a.1 b.1) then a.1 else b.1, b.2) <;> rfl
theorem yym (s : Sp) : ∀ (post pre : List B) (lo : B) (n : Nat) (out : List Sp), post.length < n → (pre ++ post).length < 1000 → out.length ≤ pre.length →
    ∃ q last, zal NN n (pre ++ post) lo (pre.length : Int) s.1 s.2 out = some (((), ((), last)), ((s.1, s.2), (q, ()))) ∧ q ++ [yny s (last, [])] = out ++ za4 s lo post ∧ q.length ≤ (pre ++ post).length
  | _, _, _, 0, _, h, _, _ => absurd h (Nat.not_lt_zero _)
  | [], pre, lo, n + 1, out, _, _, ho => ⟨out, lo, by rw [zjb, z6q, y82]; rfl, rfl, by simpa using ho⟩
  | p :: post, pre, lo, n + 1, out, hn, hb, ho => by
    have hb' : pre.length + (post.length + 1) < 1000 := by simpa using hb
    obtain ⟨q, last, h1, h2, h3⟩ := yym s post (pre ++ [p]) p n (out ++ [yny s (lo, p)]) (by simpa using hn) (by rw [← z2j]; exact hb) (by simp; omega)
    rw [← z2j] at h1 h3
    refine ⟨q, last, ?_, by rw [h2]; simp [za4], h3⟩
    rw [zjb, z6q, zk3, cond_true, gd_t z7m, z3n]
    rw [show ((s.1, s.2) : Sp) = s from rfl, x45]
    simp only
    rw [gd_t (z8e (by omega) (by omega)), gd_t z7m, zqz pre p (by simp; omega)]
    exact h1
theorem x8d (s : Sp) {l : List B} (h : l.length < 1000) : zq7 NN s l = some (za4 s [] l) := by
  obtain ⟨q, last, h1, h2, h3⟩ := yym s l [] [] NN [] (by simp only [NN]; omega) (by simpa using h) (Nat.le_refl _)
  simp only [List.nil_append, List.length_nil] at h1 h2 h3
  rw [show ((0 : Nat) : Int) = 0 from rfl] at h1
  unfold zq7
  rw [h1]
  simp only
  rw [show ((s.1, s.2) : Sp) = s from rfl, x45]
  simp only
  rw [gd_t (z8e (by omega) (by omega))]
  show some (q ++ [yny s (last, [])]) = _
  rw [h2]
theorem xa1 (N : Nat) (s : Sp) (k : B) : y6x N s k = some (hasB s k) := by
  simp only [y6x, hasB]
  cases lts k s.1 <;> cases eqs s.2 [] <;> rfl
theorem x44 (s : Sp) : ∀ (post pre out : List Pr) (n : Nat), post.length < n → (pre ++ post).length < 1000000 → out.length ≤ pre.length →
    zak NN n (pre ++ post) (pre.length : Int) s.1 s.2 out = some ((), (out ++ post.filter (fun x => hasB s x.1), ()))
  | _, _, _, 0, h, _, _ => absurd h (Nat.not_lt_zero _)
  | [], pre, out, n + 1, _, _, _ => by rw [zja, z6p, y82]; simp
  | x :: post, pre, out, n + 1, hn, hb, ho => by
    have hb' : pre.length + (post.length + 1) < 1000000 := by simpa using hb
    have ih := fun o (ho : o.length ≤ (pre ++ [x]).length) => x44 s post (pre ++ [x]) o n (by simpa using hn) (by rw [← z2j]; exact hb) ho
    rw [zja, z6p, zk3, cond_true, gd_t z7m, z3n, show ((s.1, s.2) : Sp) = s from rfl, xa1, zjw (q := x) (by omega), gd_t z7m, gd_t (z8e (by omega) (by omega))]
    cases e : hasB s x.1
    · simp only [cond_false]
      rw [z2j, ih out (by simp; omega), List.filter_cons_of_neg (by simp [e])]
    · simp only [cond_true]
      rw [z2j, ih (out ++ [x]) (by simp; omega), List.filter_cons_of_pos (by simp [e])]
      simp
theorem x8c (s : Sp) {t : List Pr} (h : t.length < 1000000) : zq6 NN t s = some (t.filter fun x => hasB s x.1) := by
  have := x44 s t [] [] NN (by simp only [NN]; omega) (by simpa using h) (Nat.le_refl _)
  simp only [List.nil_append, List.length_nil] at this
  rw [show ((0 : Nat) : Int) = 0 from rfl] at this
  unfold zq6
  rw [this]
def uS (c : Pr → Int) (t : List Pr) : List Sp → Int
  | [] => 0
  | s :: r => sm c (t.filter fun x => hasB s x.1) + uS c t r
theorem x99 (c : Pr → Int) (t : List Pr) : ∀ l : List Sp, uS c t l = sm (fun x => (((l.filter fun s => hasB s x.1).length : Nat) : Int) * c x) t
  | [] => by rw [uS, yjg (fun x _ => by simp)]
  | s :: r => by
    rw [uS, x99 c t r, z9y, yqm]
    refine zg3 fun x _ => ?_
    cases e : hasB s x.1
    · rw [List.filter_cons_of_neg (by simp [e])]; simp
    · rw [List.filter_cons_of_pos (by simp [e])]
      simp only [cond_true, List.length_cons]
      rw [show ((((r.filter fun s => hasB s x.1).length + 1 : Nat)) : Int) = (((r.filter fun s => hasB s x.1).length : Nat) : Int) + 1 from rfl, Int.add_mul, Int.one_mul]; omega
theorem x3o (c : Pr → Int) (t : List Pr) {l : List B} (h : pivB [] [] l = true) : uS c t (za4 allS [] l) = sm c t := by
  rw [x99]
  refine zg3 fun x _ => ?_
  rw [ymr allS x.1 l [] [] h]
  have e : hasB allS x.1 = true := by simp [hasB, eqs]; cases x.1 <;> rfl
  rw [e, zz0]; simp
def loN (u lo : Int) : Int := bif decide ((0 : Int) < u - lo) then u - lo else 0
def newS (t : List Pr) (s : Sp) (x : Z4) : Z4 :=
  ((loN (sm cI (t.filter fun y => hasB s y.1)) x.1.1, sm cI (t.filter fun y => hasB s y.1) + x.1.2), (loN (sm cB (t.filter fun y => hasB s y.1)) x.2.1, sm cB (t.filter fun y => hasB s y.1) + x.2.2))
abbrev Sm1 (x : Z4) : Prop := sumB x = true ∧ x.1.2 ≤ 510 ∧ x.2.2 ≤ 510
theorem x6n {x : Z4} (h : Sm1 x) : (0 ≤ x.1.1 ∧ x.1.1 ≤ x.1.2 ∧ x.1.2 ≤ 510) ∧ 0 ≤ x.2.1 ∧ x.2.1 ≤ x.2.2 ∧ x.2.2 ≤ 510 := by
  obtain ⟨h1, h2, h3⟩ := h
  simp only [sumB, rngB, Bool.and_eq_true, decide_eq_true_eq] at h1
  omega
theorem x6z {t : List Pr} (ho : Ok 40 12 t) (vb : VB t) (b0 : List Mg) (b1 : Bool) (b3 : List B) (b4 : List Pr) (kids : List Int) (b7 : List Mg) :
    ∀ (ss : List Sp) (rest done : List Z4) (sp : List Sp) (n : Nat), ss.length < n → rest.length = ss.length → done.length = sp.length → kids.length = done.length + rest.length → kids.length < 1000 → (∀ x ∈ rest, Sm1 x) →
    z5v NN n b0 b1 (done.length : Int) b3 b4 kids (done ++ rest) b7 t (sp ++ ss) = some ((b0, (b1, ((), ()))), (((), (b3, ((), ((), ())))), (b4, (kids, (done ++ List.zipWith (newS t) ss rest, (b7, (t, ())))))))
  | _, _, _, _, 0, h, _, _, _, _, _ => absurd h (Nat.not_lt_zero _)
  | [], rest, done, sp, n + 1, _, h1, h2, h3, h4, _ => by
    have : rest = [] := List.length_eq_zero_iff.1 h1
    subst this
    rw [zel, z4r, z5e (by simp at h3 ⊢; omega)]
    simp
  | s :: ss, [], done, sp, n + 1, _, h1, _, _, _, _ => by simp at h1
  | s :: ss, x :: rest, done, sp, n + 1, hn, h1, h2, h3, h4, hx => by
    simp only [List.length_cons] at hn h1 h3
    have ih := x6z ho vb b0 b1 b3 b4 kids b7 ss rest (done ++ [newS t s x]) (sp ++ [s]) n (by omega) (by omega) (by simp [h2]) (by simp; omega) h4 (fun y hy => hx y (by simp [hy]))
    have hf := ho.filter fun y => hasB s y.1
    have hv := vb.filter fun y => hasB s y.1
    have hc := cap hf hv (by omega)
    have hs := x6n (hx x (by simp))
    have e1 : rdL (sp ++ s :: ss) (done.length : Int) z6z = s := by rw [h2]; exact z3n
    have e2 : inB (done.length : Int) (sp ++ s :: ss).length = true := by rw [h2]; exact z7m
    simp only [MOST] at hc
    have w1 : IntKind.wrap .i64 (sm cI (t.filter fun y => hasB s y.1) - x.1.1) = sm cI (t.filter fun y => hasB s y.1) - x.1.1 := w64 (by omega) (by omega)
    have w2 : IntKind.wrap .i64 (sm cI (t.filter fun y => hasB s y.1) + x.1.2) = sm cI (t.filter fun y => hasB s y.1) + x.1.2 := w64 (by omega) (by omega)
    have w3 : IntKind.wrap .i64 (sm cB (t.filter fun y => hasB s y.1) - x.2.1) = sm cB (t.filter fun y => hasB s y.1) - x.2.1 := w64 (by omega) (by omega)
    have w4 : IntKind.wrap .i64 (sm cB (t.filter fun y => hasB s y.1) + x.2.2) = sm cB (t.filter fun y => hasB s y.1) + x.2.2 := w64 (by omega) (by omega)
    rw [zel, z4r, z9u (by simp; omega), gd_t e2, e1, x8c s (by have := ho.len; omega)]
    simp only
    rw [x53 hf hv (by omega) (by omega)]
    simp only
    rw [gd_t z7m, z3n, gd_t z7m, yuc, w1, w2, w3, w4, zjw (q := newS t s x) (by omega)]
    rw [z2j (q := s), show done ++ ((bif decide ((0 : Int) < sm cI (t.filter fun y => hasB s y.1) - x.1.1) then sm cI (t.filter fun y => hasB s y.1) - x.1.1 else (0 : Int), sm cI (t.filter fun y => hasB s y.1) + x.1.2), (bif decide ((0 : Int) < sm cB (t.filter fun y => hasB s y.1) - x.2.1) then sm cB (t.filter fun y => hasB s y.1) - x.2.1 else (0 : Int), sm cB (t.filter fun y => hasB s y.1) + x.2.2)) :: rest = (done ++ [newS t s x]) ++ rest by simp [newS, loN], ih]
    simp
theorem x1o (raw : List Mg) (b1 : Bool) (b3 : List B) (b4 : List Pr) (b5 : List Int) (b6 : List Z4) (b8 : List Pr) (hr : raw.length < 1000000000) :
    ∀ (j i n : Nat) (buf : List Mg), i + j = 3 → j < n → buf.length ≤ 12 + i → (∀ m ∈ buf, vldB m = true) →
    ∃ buf', z5u NN n raw b1 (i : Int) b3 b4 b5 b6 buf b8 = some ((b1, ((), ())), (((), (b3, ((), ((), ())))), (b4, (b5, (b6, (buf', (b8, ()))))))) ∧ buf'.length ≤ 15 ∧ ∀ m ∈ buf', vldB m = true
  | _, _, 0, _, _, h, _, _ => absurd h (Nat.not_lt_zero _)
  | 0, i, n + 1, buf, hi, _, hb, hv => by
    refine ⟨buf, ?_, by omega, hv⟩
    rw [zek, z4q]
    have : decide ((i : Int) < 3) = false := by simp; omega
    rw [this]
    cases decide ((i : Int) < (raw.length : Int)) <;> rfl
  | j + 1, i, n + 1, buf, hi, hn, hb, hv => by
    rw [zek, z4q]
    by_cases hl : (i : Int) < (raw.length : Int)
    · rw [z9u (by simpa using hl), z9u (by simp; omega), gd_t (z6t (by omega) hl), yyp]
      simp only
      have hw : IntKind.wrap .i64 ((i : Int) + (1 : Int)) = ((i + 1 : Nat) : Int) := by rw [w64 (by omega) (by omega)]; rfl
      rw [hw]
      cases e : vldB (rdL raw (i : Int) Y6)
      · simp only [cond_false]
        exact x1o raw b1 b3 b4 b5 b6 b8 hr j (i + 1) n buf (by omega) (by omega) (by omega) hv
      · simp only [cond_true]
        rw [gd_t (z6t (by omega) hl), gd_t (z8e (by omega) (by omega))]
        exact x1o raw b1 b3 b4 b5 b6 b8 hr j (i + 1) n (buf ++ [rdL raw (i : Int) Y6]) (by omega) (by omega) (by simp; omega) (fun m hm => by
          rcases List.mem_append.1 hm with h | h
          · exact hv m h
          · simp at h; rw [h]; exact e)
    · rw [z5e (by simpa using hl)]
      exact ⟨buf, rfl, by omega, hv⟩
theorem x79 {t : List Pr} (ho : Ok 40 12 t) (vb : VB t) (l : Int) (b3 : List Pr) (b4 : List B) (b5 : List Int) (b6 : List Z4) (b7 : List Mg) (z1 z2 z3 z4 : Int) :
    ∀ (ss : List Sp) (rest done : List Z4) (n : Nat) (p q a b c d : Int), ss.length < n → rest.length = ss.length → l = ((done ++ List.zipWith (newS t) ss rest).length : Int) → done.length + rest.length < 1000 → (∀ x ∈ rest, Sm1 x) →
      0 ≤ a → a ≤ p → p ≤ b → b ≤ MOST → 0 ≤ c → c ≤ q → q ≤ d → d ≤ MOST → p + uS cI t ss ≤ MOST → q + uS cB t ss ≤ MOST →
    ∃ a' b' c' d', zic NN n (done ++ List.zipWith (newS t) ss rest) l (done.length : Int) b3 b4 b5 b6 b7 z1 z2 z3 z4 a b c d = some (((), ((), ((), ()))), ((b3, (b4, (b5, (b6, b7)))), ((z1, (z2, (z3, z4))), ((a', (b', (c', d'))), ((), ()))))) ∧
      0 ≤ a' ∧ a' ≤ p + uS cI t ss ∧ p + uS cI t ss ≤ b' ∧ b' ≤ MOST ∧ 0 ≤ c' ∧ c' ≤ q + uS cB t ss ∧ q + uS cB t ss ≤ d' ∧ d' ≤ MOST
  | _, _, _, 0, _, _, _, _, _, _, h, _, _, _, _, _, _, _, _, _, _, _, _, _, _ => absurd h (Nat.not_lt_zero _)
  | [], rest, done, n + 1, p, q, a, b, c, d, _, h1, hl, h4, hx, a0, a1, a2, a3, c0, c1, c2, c3, _, _ => by
    have : rest = [] := List.length_eq_zero_iff.1 h1
    subst this
    subst hl
    refine ⟨a, b, c, d, ?_, a0, by simp [uS]; omega, by simp [uS]; omega, a3, c0, by simp [uS]; omega, by simp [uS]; omega, c3⟩
    rw [zse, zbb]
    simp only [List.zipWith_nil_left, List.append_nil, Int.lt_irrefl, decide_false, cond_false]
  | s :: ss, [], done, n + 1, _, _, _, _, _, _, _, h1, _, _, _, _, _, _, _, _, _, _, _, _, _ => by simp at h1
  | s :: ss, x :: rest, done, n + 1, p, q, a, b, c, d, hn, h1, hl, h4, hx, a0, a1, a2, a3, c0, c1, c2, c3, hp, hq => by
    simp only [List.length_cons] at hn h1 h4
    have hf := ho.filter fun y => hasB s y.1
    have hv := vb.filter fun y => hasB s y.1
    have hc := cap hf hv (by omega)
    have hs := x6n (hx x (by simp))
    have u1 : ∀ r : List Sp, 0 ≤ uS cI t r ∧ 0 ≤ uS cB t r := fun r => by
      rw [x99, x99]
      exact ⟨yql fun y _ => Int.mul_nonneg (by omega) (zv5 y).1, yql fun y _ => Int.mul_nonneg (by omega) (zqy y).1⟩
    have u1 := u1 ss
    simp only [uS] at hp hq
    have ez : List.zipWith (newS t) (s :: ss) (x :: rest) = newS t s x :: List.zipWith (newS t) ss rest := rfl
    rw [ez] at hl ⊢
    have n1 : (newS t s x).1.1 = loN (sm cI (t.filter fun y => hasB s y.1)) x.1.1 := rfl
    have n2 : (newS t s x).1.2 = sm cI (t.filter fun y => hasB s y.1) + x.1.2 := rfl
    have n3 : (newS t s x).2.1 = loN (sm cB (t.filter fun y => hasB s y.1)) x.2.1 := rfl
    have n4 : (newS t s x).2.2 = sm cB (t.filter fun y => hasB s y.1) + x.2.2 := rfl
    have lo : ∀ u v : Int, 0 ≤ v → 0 ≤ u → 0 ≤ loN u v ∧ loN u v ≤ u := fun u v h g => by
      unfold loN
      by_cases k : (0 : Int) < u - v
      · rw [z9u (by simpa using k)]; omega
      · rw [z5e (by simpa using k)]; omega
    generalize newS t s x = y at *
    have cap1 : sm cI (t.filter fun y => hasB s y.1) ≤ 40 := by
      have := yhq (c := cI) (k := 1) (t := t.filter fun y => hasB s y.1) (fun x _ => (zv5 x).2)
      have := hf.len; omega
    have cap2 : sm cB (t.filter fun y => hasB s y.1) ≤ 2560 := by
      have := yhq (c := cB) (k := 64) (t := t.filter fun y => hasB s y.1) (fun x hx => by have := (zqy x).2; have := hv x hx; omega)
      have := hf.len; omega
    have g1 := lo _ x.1.1 hs.1.1 hc.1
    have g3 := lo _ x.2.1 hs.2.1 hc.2.2.1
    rw [← n1] at g1; rw [← n3] at g3
    have l1 := zv2 a0 (by omega) (x := y.1.1) (by simp only [MOST] at *; omega) (by simp only [MOST] at *; omega)
    have l2 := zhs (a := b) (by omega) a3 (x := y.1.2) (by omega) (by simp only [MOST] at *; omega)
    have l3 := zv2 c0 (by omega) (x := y.2.1) (by simp only [MOST] at *; omega) (by simp only [MOST] at *; omega)
    have l4 := zhs (a := d) (by omega) c3 (x := y.2.2) (by omega) (by simp only [MOST] at *; omega)
    obtain ⟨a', b', c', d', i1, i2⟩ := x79 ho vb l b3 b4 b5 b6 b7 z1 z2 z3 z4 ss rest (done ++ [y]) n (p + sm cI (t.filter fun y => hasB s y.1)) (q + sm cB (t.filter fun y => hasB s y.1)) (loC a y.1.1) (hiC b y.1.2) (loC c y.2.1) (hiC d y.2.2) (by omega) (by omega) (by rw [hl]; simp) (by simp; omega) (fun y hy => hx y (by simp [hy]))
      (by simp only [MOST] at *; omega) (by simp only [MOST] at *; omega) (by simp only [MOST] at *; omega) (by simp only [MOST] at *; omega) (by simp only [MOST] at *; omega) (by simp only [MOST] at *; omega) (by simp only [MOST] at *; omega) (by simp only [MOST] at *; omega) (by omega) (by omega)
    refine ⟨a', b', c', d', ?_, by simp only [uS]; omega⟩
    have hlt : decide ((done.length : Int) < l) = true := by rw [hl]; exact zk3
    rw [zse, zbb, hlt, cond_true, gd_t z7m, z3n, zv6]
    simp only [zjv]
    rw [zjw (q := y) (by omega), z2j, i1]
theorem xd7 {t : List Pr} (h : ∀ p ∈ t, yhw p) : VB t := fun x hx => by
  obtain ⟨_, h2, _⟩ := h x hx
  have := yv7 h2
  omega
theorem x4b {t : List Pr} (ho : Ok 40 12 t) (vb : VB t) : ∀ (kids : List Int) (ss : List Sp) (sums : List Z4), (∀ y ∈ kids.zip sums, kidB y = true) → (∀ x ∈ sums, Sm1 x) → sums.length = kids.length → (kids.zip (List.zipWith (newS t) ss sums)).all kidB = true
  | [], _, _, _, _, _ => rfl
  | k :: kids, [], sums, _, _, _ => by simp
  | k :: kids, s :: ss, [], _, _, _ => by simp
  | k :: kids, s :: ss, x :: sums, h, hs, hl => by
    have ih := x4b ho vb kids ss sums (fun y hy => h y (by simp [hy])) (fun y hy => hs y (by simp [hy])) (by simpa using hl)
    have h0 := h (k, x) (by simp)
    have hx := x6n (hs x (by simp))
    have hf := ho.filter fun y => hasB s y.1
    have hv := vb.filter fun y => hasB s y.1
    have hc := cap hf hv (by omega)
    have cap1 : sm cI (t.filter fun y => hasB s y.1) ≤ 40 := by
      have := yhq (c := cI) (k := 1) (t := t.filter fun y => hasB s y.1) (fun x _ => (zv5 x).2)
      have := hf.len; omega
    have cap2 : sm cB (t.filter fun y => hasB s y.1) ≤ 2560 := by
      have := yhq (c := cB) (k := 64) (t := t.filter fun y => hasB s y.1) (fun x hx => by have := (zqy x).2; have := hv x hx; omega)
      have := hf.len; omega
    have lo : ∀ u v : Int, 0 ≤ v → 0 ≤ u → 0 ≤ loN u v ∧ loN u v ≤ u := fun u v h g => by
      unfold loN
      by_cases k : (0 : Int) < u - v
      · rw [z9u (by simpa using k)]; omega
      · rw [z5e (by simpa using k)]; omega
    have g1 := lo _ x.1.1 hx.1.1 hc.1
    have g3 := lo _ x.2.1 hx.2.1 hc.2.2.1
    simp only [kidB, Bool.and_eq_true] at h0
    have hb : sumB (newS t s x) = true := by
      have q1 : rngB (newS t s x).1 = true := by
        show (decide (0 ≤ loN (sm cI (t.filter fun y => hasB s y.1)) x.1.1) && (decide (loN (sm cI (t.filter fun y => hasB s y.1)) x.1.1 ≤ sm cI (t.filter fun y => hasB s y.1) + x.1.2) && decide (sm cI (t.filter fun y => hasB s y.1) + x.1.2 ≤ 1000000000000000))) = true
        simp only [Bool.and_eq_true, decide_eq_true_eq]; omega
      have q2 : rngB (newS t s x).2 = true := by
        show (decide (0 ≤ loN (sm cB (t.filter fun y => hasB s y.1)) x.2.1) && (decide (loN (sm cB (t.filter fun y => hasB s y.1)) x.2.1 ≤ sm cB (t.filter fun y => hasB s y.1) + x.2.2) && decide (sm cB (t.filter fun y => hasB s y.1) + x.2.2 ≤ 1000000000000000))) = true
        simp only [Bool.and_eq_true, decide_eq_true_eq]; omega
      unfold sumB
      rw [q1, q2]; rfl
    simp only [List.zipWith_cons_cons, List.zip_cons_cons, List.all_cons, Bool.and_eq_true]
    exact ⟨by simp only [kidB, h0.1, hb, Bool.and_self], ih⟩
theorem x8e {R : Nat} (hR : R ≤ 20000000000) (x : zii) (y : List V2) (raw : List Z2) (hx : yi7 R (.val ze8) x) (hy : yi7 R (.list z15) y) (hr : yi7 R (.list Y5) raw) : zml NN x y raw = some true := by
  have hvs : x.2.2.1.length ≤ 20000000000 := by
    have h := hx.2.2.1.1
    simp only [Ty.bytes] at h
    have : x.2.2.1.length * 1 ≤ R := h
    omega
  have hraw : raw.length < 1000000000 := by
    have h : raw.length * 112 ≤ R := hr.1
    omega
  obtain ⟨n, h1, hn⟩ := x8k (ztl (by simp only [reachBytes]; omega) ze8 x hx) hvs
  obtain ⟨t, h2, ho, hp⟩ := x4j (xs := y) (ztl (by simp only [reachBytes]; omega) (.list z15) y hy)
  have vb := xd7 hp
  obtain ⟨small, val, tiny, gbuf, gkeys, gpiv, gsums⟩ := hn
  obtain ⟨b4, b3, kids, sums, buf⟩ := n
  simp only at tiny gbuf gkeys gpiv gsums
  unfold zml
  rw [x9v]
  simp only
  rw [h1]
  simp only
  rw [h2]
  simp only
  rw [isE]
  cases hk : kids.isEmpty
  · simp only [cond_false]
    simp only [valB, hk, cond_false, innB, Bool.and_eq_true] at val
    obtain ⟨⟨v1, v2, v3⟩, v4, v5, v6⟩ := val
    have v2 := w7.1 v2
    have v3 := w7.1 v3
    have hsl : sums.length = kids.length := by omega
    have hpl : b3.length + 1 = kids.length := by omega
    have v5 := List.all_eq_true.1 v5
    have hs1 : ∀ x ∈ sums, Sm1 x := fun x hx => by
      refine ⟨?_, gsums x hx⟩
      obtain ⟨i, hi, rfl⟩ := List.getElem_of_mem hx
      have := v5 (kids[i]'(by omega), sums[i]) (by
        have : (kids.zip sums)[i]'(by simp; omega) = (kids[i]'(by omega), sums[i]) := by simp
        rw [← this]; exact List.getElem_mem _)
      simp only [kidB, Bool.and_eq_true] at this
      exact this.2
    rw [show (([] : List UInt8), ([] : List UInt8)) = allS from rfl, x8d allS (by omega)]
    simp only
    have hps := yyq allS b3 []
    have e1 := x6z ho vb raw true b3 b4 kids buf (za4 allS [] b3) sums [] [] NN (by simp only [NN]; omega) (by omega) rfl (by simp; omega) (by omega) hs1
    simp only [List.nil_append, List.length_nil] at e1
    rw [show ((0 : Nat) : Int) = 0 from rfl] at e1
    rw [e1]
    simp only
    obtain ⟨buf', e2, e3, e4⟩ := x1o raw true b3 b4 kids (List.zipWith (newS t) (za4 allS [] b3) sums) t hraw 3 0 NN buf rfl (by simp only [NN]; omega) (by omega) (fun m hm => x4q (gbuf m hm))
    rw [show ((0 : Nat) : Int) = 0 from rfl] at e2
    rw [e2]
    simp only
    have hzl : (List.zipWith (newS t) (za4 allS [] b3) sums).length = kids.length := by simp; omega
    have hva : valB (b4, (b3, (kids, (List.zipWith (newS t) (za4 allS [] b3) sums, buf')))) allS = true := by
      unfold valB innB
      simp only [hk, cond_false, v1, Bool.true_and]
      rw [w7.2 (show ((List.zipWith (newS t) (za4 allS [] b3) sums).length : Int) = (kids.length : Int) by omega), w7.2 v3, v4, x4b ho vb kids _ sums v5 hs1 hsl]
      rw [List.all_eq_true.2 fun m hm => yz2 (e4 m hm)]
      rfl
    rw [xcs ⟨by simp only; omega, by simp only; omega, by simp only; omega, by simp only; omega, by simp only; omega⟩, hva]
    simp only [cond_true]
    have pw : (2 : Nat) ^ buf'.length ≤ 2 ^ 15 := Nat.pow_le_pow_right (by omega) e3
    have hsz : (40 + 1) * 2 ^ buf'.length ≤ 50000000 := by
      have : (2 : Nat) ^ 15 = 32768 := by decide
      omega
    have ho' := ho.mono (Nat.le_refl 40) (show 12 ≤ 65535 by omega)
    obtain ⟨a1, a2⟩ := xds (ms := buf') ho' hsz (Nat.le_refl _) (by omega) (by omega) e4
    have vbs : ∀ (ms : List Mg) (t : List Pr), VB t → (∀ m ∈ ms, vldB m = true) → VB (yv3 ms t) := fun ms => by
      induction ms with
      | nil => exact fun t h _ => h
      | cons m ms ih => exact fun t h g => ih _ (x6l h (g m (by simp))) (fun x hx => g x (by simp [hx]))
    have hva2 := vbs buf' t vb e4
    rw [a1]
    simp only
    rw [x53 a2 hva2 (by omega) (by omega)]
    simp only
    have capt := cap ho vb (by omega)
    have p1 := x3o cI t v4
    have p2 := x3o cB t v4
    obtain ⟨a, b, c, d, s1, s2⟩ := x79 ho vb ((List.zipWith (newS t) (za4 allS [] b3) sums).length : Int) b4 b3 kids (List.zipWith (newS t) (za4 allS [] b3) sums) buf' 0 0 0 0 (za4 allS [] b3) sums [] NN 0 0 0 0 0 0 (by simp only [NN]; omega) (by omega) (by simp) (by simp; omega) hs1
      (by omega) (by omega) (by omega) (by simp only [MOST]; omega) (by omega) (by omega) (by omega) (by simp only [MOST]; omega) (by rw [p1]; omega) (by rw [p2]; omega)
    simp only [List.nil_append, List.length_nil] at s1
    rw [show ((0 : Nat) : Int) = 0 from rfl] at s1
    rw [p1, p2] at s2
    obtain ⟨a', b', c', d', q1, q2⟩ := xbc (buf'.length : Int) 0 0 0 0 buf' [] NN 40 65535 t a b c d (by simp) (by simp only [NN]; omega) (by simp; omega) ho' hsz (Nat.le_refl _) (by omega) e4 vb ⟨by omega, by omega, by omega, by omega, by omega, by omega, by omega, by omega⟩
    simp only [List.nil_append, List.length_nil] at q1
    rw [show ((0 : Nat) : Int) = 0 from rfl] at q1
    have es : zjd NN (b4, (b3, (kids, (List.zipWith (newS t) (za4 allS [] b3) sums, buf')))) = some ((a', b'), (c', d')) := by
      unfold zjd
      simp only
      rw [isE, hk, cond_false, s1]
      simp only
      rw [q1]
    rw [es]
    obtain ⟨i0, i1, i2, i3, j0, j1, j2, j3⟩ := q2
    have ew : zkk NN (sm cI (yv3 buf' t), sm cB (yv3 buf' t)) ((a', b'), (c', d')) = some true := by
      simp only [zkk, xc7]
      rw [zcg.2 ⟨i1, i2⟩, zcg.2 ⟨j1, j2⟩]
      rfl
    simp only
    rw [ew]
    rfl
  · simp only [cond_true]
    have e : z65 NN b4 = some (Pa.sI b4, Pa.sB' b4) := Pa.total_ok (by omega) (fun q hq => by
      obtain ⟨q1, q2, _⟩ := gkeys q hq
      have := y3b q1
      have := yv7 q2
      exact ⟨by omega, by omega⟩)
    have es : zjd NN (b4, (b3, (kids, (sums, buf)))) = some ((Pa.sI b4, Pa.sI b4), (Pa.sB' b4, Pa.sB' b4)) := by
      unfold zjd
      simp only
      rw [isE, hk, cond_true, e]
    rw [es]
    simp only
    rw [e]
    simp [y32]
end Ds
