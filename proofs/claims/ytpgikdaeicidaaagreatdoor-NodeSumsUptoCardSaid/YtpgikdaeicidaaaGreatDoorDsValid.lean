/- Which nodes are valid: what node.Valid and the reference's Valid reckon, for any node. -/
import Derived.Test.YtpgikdaeicidaaaGreatDoorDsPure
import Derived.Test.YtpgikdaeicidaaaGreatDoorDvD
import Derived.Test.YtpgikdaeicidaaaGreatDoorDvE
import Derived.Test.YtpgikdaeicidaaaGreatDoorDsMsgs
set_option linter.all false
namespace Ds
open Go Go.Dv
set_option maxRecDepth 100000
set_option linter.unusedVariables false
theorem look {α R : Type} {xs : List α} {L : Nat → Int → Option R} (p : α → Bool) (yes no : R)
    (hend : ∀ n, L (n + 1) (xs.length : Int) = some yes)
    (hstep : ∀ n pre x post, xs = pre ++ x :: post → L (n + 1) (pre.length : Int) = bif p x then L n ((pre ++ [x]).length : Int) else some no) :
    ∀ post pre n, xs = pre ++ post → post.length < n → L n (pre.length : Int) = some (bif post.all p then yes else no)
  | _, _, 0, _, h => absurd h (Nat.not_lt_zero _)
  | [], pre, n + 1, hx, _ => by
    have : xs = pre := by simpa using hx
    subst this
    exact hend n
  | x :: post, pre, n + 1, hx, hn => by
    rw [hstep n pre x post hx]
    cases hp : p x
    · simp [hp]
    · rw [cond_true, look p yes no hend hstep post (pre ++ [x]) n (by rw [hx]; simp) (by simpa using hn)]
      simp [hp]
theorem x1y {α R : Type} {xs : List α} {L : Nat → Int → Option R} (p : α → Bool) (yes no : R)
    (hend : ∀ n, L (n + 1) (xs.length : Int) = some yes)
    (hstep : ∀ n pre x post, xs = pre ++ x :: post → L (n + 1) (pre.length : Int) = bif p x then L n ((pre ++ [x]).length : Int) else some no)
    {n : Nat} (hn : xs.length < n) : L n 0 = some (bif xs.all p then yes else no) := look p yes no hend hstep xs [] n rfl hn
theorem zqz {α : Type} (pre : List α) (x : α) (h : (pre ++ [x]).length < 1000000000) : IntKind.wrap .i64 ((pre.length : Int) + (1 : Int)) = ((pre ++ [x]).length : Int) := zjw (q := x) (by simp at h; omega)
def x9a (p : Pr) : Bool := inR p.1.length 1 65535 && (decide ((p.2.1.length : Int) ≤ 64) && inR p.2.2 0 1000000000)
theorem xc7 (N : Nat) (n lo hi : Int) : zj7 N n lo hi = some (inR n lo hi) := by
  have h : inR n lo hi = (decide (lo ≤ n) && decide (n ≤ hi)) := by rw [Bool.eq_iff_iff, zcg]; simp
  simp only [zj7, h]
  cases decide (lo ≤ n) <;> simp
def upB : List Pr → Bool
  | [] => true
  | p :: r => match r with | [] => true | q :: _ => lts p.1 q.1 && upB r
theorem x6w (p q : Pr) (r : List Pr) : upB (p :: q :: r) = (lts p.1 q.1 && upB (q :: r)) := rfl
theorem xba (N : Nat) : ∀ (post pre : List Pr) (p : Pr) (n : Nat), post.length < n → Big (pre ++ p :: post).length → z7i N n (pre ++ p :: post) ((pre.length : Int) + 1) = some (bif upB (p :: post) then .inr ((), ()) else .inl (false, ()))
  | [], pre, p, n + 1, _, hb => by
    rw [zj2, z6l, z5e (by simp)]; rfl
  | q :: post, pre, p, n + 1, hn, hb => by
    have hb' : pre.length + (post.length + 1 + 1) < 1000000000 := by simpa [Big] using hb
    have e : IntKind.wrap .i64 ((pre.length : Int) + 1 - 1) = (pre.length : Int) := by rw [w64 (by omega) (by omega)]; omega
    have e2 : ((pre.length : Int) + 1) = ((pre ++ [p]).length : Int) := by simp
    have e3 : pre ++ p :: q :: post = (pre ++ [p]) ++ q :: post := by simp
    have hl : (pre ++ p :: q :: post).length = pre.length + (post.length + 1 + 1) := by simp
    rw [zj2, z6l, z9u (by simp; omega), e, gd_t (z6t (by omega) (by omega)), z3n]
    simp only
    rw [gd_t (z6t (by omega) (by omega)), e2, e3, z3n, x6w, zqz (pre ++ [p]) q (by simp; omega)]
    cases h : lts p.1 q.1
    · rfl
    · have ih := xba N post (pre ++ [p]) q n (by simpa using hn) (by rw [← e3]; exact hb)
      simp only [Bool.not_true, cond_false, Bool.true_and]
      rw [← ih]
      congr 1
      simp
      omega
theorem xe7 {t : List Pr} (h : t.length < 100000) : zq0 NN t = some (upB t) := by
  unfold zq0
  cases t with
  | nil => rw [show z7i NN NN ([] : List Pr) (1 : Int) = some (.inr ((), ())) from rfl]; rfl
  | cons p r =>
    have := xba NN r [] p NN (by simp at h; simp only [NN]; omega) (by simp only [Big]; simp at h ⊢; omega)
    simp only [List.nil_append, List.length_nil] at this
    rw [show (((0 : Nat) : Int) + 1) = 1 from rfl] at this
    rw [this]
    cases upB (p :: r) <;> rfl
theorem xeb {t : List Pr} (h : t.length < 100000) : y33 NN t = some (upB t) := xe7 h
def x1t (s : Sp) (p : Pr) : Bool := x9a p && hasB s p.1
def upR : List UInt8 → List UInt8
  | [] => []
  | b :: r => bif b == 255 then upR r else (b + 1) :: r
def preS (p : B) : Sp := (p, (upR p.reverse).reverse)
theorem xbk : ∀ (r : List UInt8) (n : Nat) (a : B), r.length < n → r.length < 1000000 → ∃ m, zah NN n a [] [] (K7 r.reverse) = some ((a, ((), ())), (([], []), (K7 m.reverse, ()))) ∧ m.length ≤ r.length ∧ upR r = upR m ∧ (∀ b q, m = b :: q → b ≠ 255)
  | [], n + 1, a, _, _ => ⟨[], by rw [zj3]; rfl, Nat.le_refl _, rfl, fun _ _ h => by cases h⟩
  | b :: r, n + 1, a, hn, hl => by
    have hn' : r.length < n := by simpa using hn
    have hl' : r.length + 1 < 1000000 := by simpa using hl
    have e0 : K7 (b :: r).reverse = K7 r.reverse ++ [(b.toNat : Int)] := by simp [K7]
    have e1 : (K7 (b :: r).reverse).length = r.length + 1 := by rw [e0]; simp [K7]
    have e2 : IntKind.wrap .i64 (((K7 (b :: r).reverse).length : Int) - 1) = ((K7 r.reverse).length : Int) := by rw [e1, w64 (by omega) (by omega)]; simp [K7]
    have e3 : (K7 r.reverse).length = r.length := by simp [K7]
    rw [zj3, zbx]
    simp only
    rw [z9u (by rw [e1]; simp), e2, gd_t (z6t (by omega) (by omega)), e0, z3n]
    by_cases hb : b = 255
    · subst hb
      rw [z9u (by rfl), gd_t (by rw [← e0, e1, e3]; simp; omega)]
      obtain ⟨m, h1, h2, h3, h4⟩ := xbk r n a hn' (by omega)
      refine ⟨m, ?_, by simp; omega, by rw [← h3]; rfl, h4⟩
      rw [← h1]
      congr 1
      simp
    · rw [z5e (y0a fun h => hb (by apply UInt8.toNat_inj.1; simp; omega))]
      exact ⟨b :: r, by rw [e0], Nat.le_refl _, rfl, fun c q h => by cases h; exact hb⟩
theorem x7z (q : B) (b : UInt8) : z39 (K7 q ++ [IntKind.wrap .u8 ((b.toNat : Int) + 1)]) = q ++ [b + 1] := by
  have h1 : z39 (K7 q ++ [IntKind.wrap .u8 ((b.toNat : Int) + 1)]) = z39 (K7 q) ++ z39 [IntKind.wrap .u8 ((b.toNat : Int) + 1)] := by simp [z39]
  rw [h1, UI]
  congr 1
  simp only [z39, List.map_cons, List.map_nil]
  congr 1
  apply UInt8.toNat_inj.1
  rw [IntKind.wrap_u8]
  have := b.toNat_lt
  simp
  omega
theorem zv0 (p : B) (hp : p.length < 100000) : z4a NN p = some (preS p) := by
  obtain ⟨m, h1, h2, h3, h4⟩ := xbk p.reverse NN p (by simp only [NN, List.length_reverse]; omega) (by simp only [List.length_reverse]; omega)
  rw [List.reverse_reverse] at h1
  unfold z4a preS
  rw [gd_p (by simp only [maxB]; omega), h1, h3]
  simp only
  cases m with
  | nil => rfl
  | cons b q =>
    have hb := h4 b q rfl
    have e0 : K7 (b :: q).reverse = K7 q.reverse ++ [(b.toNat : Int)] := by simp [K7]
    have e1 : (K7 q.reverse).length = q.length := by simp [K7]
    have hq : q.length + 1 ≤ p.length := by simpa using h2
    have e2 : IntKind.wrap .i64 (((K7 q.reverse ++ [(b.toNat : Int)]).length : Int) - 1) = ((K7 q.reverse).length : Int) := by
      rw [w64 (by simp [e1]; try omega) (by simp [e1]; try omega)]; simp
    rw [e0, z9u (by simp; try omega), e2, gd_t (z6t (by omega) (by simp; try omega)), z3n, gd_t (z6t (by omega) (by simp; try omega)), yuc, x7z]
    simp only [upR]
    rw [z5e (by simpa using hb)]
    simp
theorem xbw {pre post : B} {b : UInt8} : bt (pre ++ b :: post) (pre.length : Int) = (b.toNat : Int) := by simp [bt]
theorem x71 : ∀ (r tl : B) (n : Nat), r.length < n → r.length < 1000000 → ∃ m t, z8s NN n (r.reverse ++ tl) (r.length : Int) [] [] = some (((r.reverse ++ tl), ((), (m.length : Int))), (([], []), ())) ∧ r.reverse ++ tl = m.reverse ++ t ∧ m.length ≤ r.length ∧ upR r = upR m ∧ (∀ b q, m = b :: q → b ≠ 255)
  | [], tl, n + 1, _, _ => ⟨[], tl, by rw [zhm]; rfl, rfl, Nat.le_refl _, rfl, fun _ _ h => by cases h⟩
  | b :: r, tl, n + 1, hn, hl => by
    have hn' : r.length < n := by simpa using hn
    have hl' : r.length + 1 < 1000000 := by simpa using hl
    have e0 : (b :: r).reverse ++ tl = r.reverse ++ b :: tl := by simp
    have e1 : ((b :: r).length : Int) = (r.length : Int) + 1 := by simp
    have e2 : IntKind.wrap .i64 (((b :: r).length : Int) - 1) = (r.reverse.length : Int) := by rw [e1, w64 (by omega) (by omega)]; simp
    rw [zhm, za3, z9u (by simp; try omega), e2, e0, gd_t (z6t (by omega) (by simp; try omega)), xbw]
    simp only
    by_cases hb : b = 255
    · subst hb
      rw [z9u (by rfl)]
      obtain ⟨m, t, h1, h2, h2', h3, h4⟩ := x71 r (255 :: tl) n hn' (by omega)
      refine ⟨m, t, ?_, h2, by simp; omega, by rw [← h3]; rfl, h4⟩
      rw [← h1]
      simp
    · rw [z5e (y0a fun h => hb (by apply UInt8.toNat_inj.1; simp; omega))]
      exact ⟨b :: r, tl, rfl, by simp, Nat.le_refl _, rfl, fun c q h => by cases h; exact hb⟩
theorem yuh (p : B) (hp : p.length < 100000) : z3w NN p = some (preS p) := by
  obtain ⟨m, t, h1, h2, h2', h3, h4⟩ := x71 p.reverse [] NN (by simp only [NN, List.length_reverse]; omega) (by simp only [List.length_reverse]; omega)
  rw [List.reverse_reverse, List.append_nil, List.length_reverse] at h1
  rw [List.reverse_reverse, List.append_nil] at h2
  unfold z3w preS
  rw [h1, h3]
  simp only
  cases m with
  | nil => rfl
  | cons b q =>
    have hb := h4 b q rfl
    have hq : q.length + 1 ≤ p.length := by simpa using h2'
    have e2 : IntKind.wrap .i64 (((b :: q).length : Int) - 1) = (q.reverse.length : Int) := by
      rw [w64 (by simp; try omega) (by simp; try omega)]; simp
    have hp' : p = q.reverse ++ b :: t := by rw [h2]; simp
    have hc : cut2 p 0 (q.reverse.length : Int) = q.reverse := by rw [x1m, hp']; simp
    have hbt : bt p (q.reverse.length : Int) = (b.toNat : Int) := by rw [hp']; exact xbw
    rw [z5e (y0a (by simp; try omega)), e2, gd_t (by simp; try omega), hc, hbt, gd_t (z6t (by omega) (by simp; try omega))]
    rw [gd_p (by simp [z39, maxS]; omega)]
    have := x7z q.reverse b
    have h5 : z39 (K7 q.reverse ++ [IntKind.wrap .u8 ((b.toNat : Int) + 1)]) = q.reverse ++ z39 [IntKind.wrap .u8 ((b.toNat : Int) + 1)] := by
      have : z39 (K7 q.reverse ++ [IntKind.wrap .u8 ((b.toNat : Int) + 1)]) = z39 (K7 q.reverse) ++ z39 [IntKind.wrap .u8 ((b.toNat : Int) + 1)] := by simp [z39]
      rw [this, UI]
    rw [h5] at this
    simp only [upR]
    rw [z5e (by simpa using hb), this]
    simp
def wrS (m : Mg) : List Sp := bif eqi m.1 1 || eqi m.1 2 then [(m.2.1, m.2.1 ++ [0])] else bif eqi m.1 4 then [preS m.2.2.2.2.1, preS m.2.2.2.2.2.1] else bif eqi m.1 5 then [preS m.2.2.2.2.2.1] else [m.2.2.2.1]
def rdsS (m : Mg) : List Sp := bif eqi m.1 4 || eqi m.1 5 then [preS m.2.2.2.2.1] else bif eqi m.1 6 then [m.2.2.2.1] else []
abbrev LenM (m : Mg) : Prop := m.2.1.length < 100000 ∧ m.2.2.2.2.1.length < 100000 ∧ m.2.2.2.2.2.1.length < 100000
theorem xeg (k : B) (h : k.length < 100000) : zj4 NN k = some (k, k ++ [0]) ∧ zi4 NN k = some (k, k ++ [0]) := by
  constructor
  · unfold zj4
    rw [gd_p (by simp [maxS]; omega)]
  · unfold zi4
    rw [gd_p (by simp [maxS]; omega)]
theorem kind_cases {m : Mg} (h : vldB m = true) : m.1 = 1 ∨ m.1 = 2 ∨ m.1 = 3 ∨ m.1 = 4 ∨ m.1 = 5 ∨ m.1 = 6 := by
  unfold vldB at h
  by_cases h1 : m.1 = 1
  · exact .inl h1
  rw [z5e (y0a h1)] at h
  by_cases h2 : m.1 = 2
  · exact .inr (.inl h2)
  rw [z5e (y0a h2)] at h
  by_cases h3 : m.1 = 3
  · exact .inr (.inr (.inl h3))
  rw [z5e (y0a h3)] at h
  by_cases h4 : m.1 = 4
  · exact .inr (.inr (.inr (.inl h4)))
  by_cases h5 : m.1 = 5
  · exact .inr (.inr (.inr (.inr (.inl h5))))
  by_cases h6 : m.1 = 6
  · exact .inr (.inr (.inr (.inr (.inr h6))))
  simp [y0a h4, y0a h5, y0a h6] at h
theorem x9z {m : Mg} (h : vldB m = true) (hl : LenM m) : y72 NN m = some (rdsS m) ∧ zq5 NN m = some (rdsS m) ∧ zvv NN m = some (wrS m) ∧ zkm NN m = some (wrS m) := by
  obtain ⟨k, a1, a2, a3, a4, a5, a6⟩ := m
  obtain ⟨l1, l2, l3⟩ := hl
  have o := xeg a1 l1
  have p4 := zv0 a4 l2
  have p5 := zv0 a5 l3
  have r4 := yuh a4 l2
  have r5 := yuh a5 l3
  rcases kind_cases h with e | e | e | e | e | e <;> (simp only at e; subst e) <;>
    simp [y72, zk2, zq5, zvv, zkm, rdsS, wrS, eqi, zqo, zqq, zma, zm8, zis, zin, zm7, zmc, zir, ziq, zgf, zgc, o, p4, p5, r4, r5]
theorem zeh {s : B} (h : nol s = true) : s.length = 0 := by rw [z1d.1 (show eqs s [] = true from h)]; rfl
theorem xce {m : Mg} (h : vldB m = true) : LenM m := by
  obtain ⟨k, a1, a2, a3, a4, a5, a6⟩ := m
  have hk := kind_cases h
  simp only [vldB] at h
  rcases hk with e | e | e | e | e | e <;> (simp only at e; subst e) <;> simp [eqi, zcg] at h
  · have := zeh h.2.2.2.1; have := zeh h.2.2.2.2; exact ⟨by simp only; omega, by simp only; omega, by simp only; omega⟩
  · have := zeh h.2.2.2.2.1; have := zeh h.2.2.2.2.2.1; exact ⟨by simp only; omega, by simp only; omega, by simp only; omega⟩
  · have := zeh h.2.1; have := zeh h.2.2.2.1; have := zeh h.2.2.2.2.1; exact ⟨by simp only; omega, by simp only; omega, by simp only; omega⟩
  · have := zwi h.1; have := zeh h.2.1; exact ⟨by simp only; omega, by simp only; omega, by simp only; omega⟩
  · have := zwi h.1; have := zeh h.2.1; exact ⟨by simp only; omega, by simp only; omega, by simp only; omega⟩
  · have := zeh h.2.1; have := zeh h.2.2.2.1; have := zeh h.2.2.2.2; exact ⟨by simp only; omega, by simp only; omega, by simp only; omega⟩
def covB (a b : Sp) : Bool := emptyB b || (hasB a b.1 && !(lessB a.2 b.2))
theorem xdj (a b : Sp) : (emptyB b || (!(emptyB a) && ((lts a.1 b.1 || eqs a.1 b.1) && !(lessB a.2 b.2)))) = covB a b := by
  unfold covB
  cases hb : emptyB b
  · cases hl : lessB a.2 b.2
    · simp only [Bool.false_or, Bool.not_false, Bool.and_true, x9h]
      cases ha : emptyB a
      · simp only [Bool.not_false, Bool.true_and, hasB]
        cases h1 : lts b.1 a.1
        · simp only [Bool.not_false, cond_true]
          cases h2 : eqs a.2 []
          · simp only [cond_false]
            simp only [lessB, h2, Bool.not_false, Bool.true_and, Bool.or_eq_false_iff] at hl
            simp only [emptyB, hl.1, Bool.not_false, Bool.true_and, x9h, Bool.not_eq_false'] at hb
            exact (yhs hb hl.2).symm
          · rfl
        · rfl
      · simp only [Bool.not_true, Bool.false_and]
        rw [y63 ha]
    · simp
  · simp
theorem xcr (N : Nat) (a b : Sp) : zko N a b = some (covB a b) := by
  rw [← xdj]
  simp only [zko, y31, x7d]
  cases emptyB b <;> cases emptyB a <;> cases (lts a.1 b.1 || eqs a.1 b.1) <;> rfl
def insB (s : Sp) (m : Mg) : Bool := (rdsS m ++ wrS m).all (covB s)
def msgB (s : Sp) (m : Mg) : Bool := vldB m && insB s m
theorem xco (m : Mg) : (rdsS m).length ≤ 1 ∧ (wrS m).length ≤ 2 := by
  simp only [rdsS, wrS]
  constructor
  · cases (eqi m.1 4 || eqi m.1 5) <;> cases eqi m.1 6 <;> simp
  · cases (eqi m.1 1 || eqi m.1 2) <;> cases eqi m.1 4 <;> cases eqi m.1 5 <;> simp
theorem x2r (s : Sp) {m : Mg} (hv : vldB m = true) : zkl NN m s = some (insB s m) := by
  obtain ⟨_, h1, _, h2⟩ := x9z hv (xce hv)
  have hl := xco m
  unfold zkl insB
  rw [h1, h2]
  simp only
  rw [gd_t (x25 (by simp only [maxB]; omega) (by simp only [maxB]; omega))]
  have H := x1y (xs := rdsS m ++ wrS m) (L := fun n i => z8r NN n i s.1 s.2 (rdsS m ++ wrS m)) (covB s) (.inr ((), ())) (.inl (false, ())) (fun n => by
      simp only [zhk, z5l]; rw [z5e (by simp)])
    (fun n pre x post hx => by
      have hl : (rdsS m ++ wrS m).length = pre.length + (post.length + 1) := by rw [hx]; simp
      have hl2 : (rdsS m ++ wrS m).length ≤ 3 := by simp; omega
      simp only [zhk, z5l]
      rw [z9u (by rw [hl]; simp; omega), gd_t (z6t (by omega) (by omega)), zqz pre x (by simp; omega), show rdL (rdsS m ++ wrS m) (pre.length : Int) z6z = x by rw [hx]; exact z3n, xcr]
      cases covB s x <;> rfl)
    (n := NN) (by simp only [NN, List.length_append]; omega)
  have hh : (@HAppend.hAppend (List Z7) (List Z7) (List Z7) _ (rdsS m) (wrS m)) = rdsS m ++ wrS m := rfl
  simp only [hh]
  rw [H]
  cases (rdsS m ++ wrS m).all (covB s) <;> rfl
abbrev Nd := z4u
def pivB (lo hi : B) : List B → Bool
  | [] => true
  | p :: r => lts lo p && ((eqs hi [] || lts p hi) && pivB p hi r)
theorem x72 (lo hi : B) : ∀ (post pre : List B) (last : B) (n : Nat), post.length < n → Big (pre ++ post).length → (pre = [] ∧ last = lo ∨ ∃ q, pre = q ++ [last] ∧ lts lo last = true) →
    z5k NN n (pre ++ post) (pre.length : Int) lo hi = some (bif pivB last hi post then .inr ((), ()) else .inl (false, ()))
  | [], pre, last, n + 1, _, _, _ => by
    rw [zhj, z5j, y82]; rfl
  | p :: post, pre, last, n + 1, hn, hb, hp => by
    have hb' : pre.length + (post.length + 1) < 1000000000 := by simpa [Big] using hb
    have ih : lts lo p = true → z5k NN n (pre ++ p :: post) ((pre ++ [p]).length : Int) lo hi = some (bif pivB p hi post then .inr ((), ()) else .inl (false, ())) := fun h => by
      rw [z2j]
      exact x72 lo hi post (pre ++ [p]) p n (by simpa using hn) (by rw [← z2j]; exact hb) (.inr ⟨pre, rfl, h⟩)
    rw [zhj, z5j, zk3, cond_true, gd_t z7m, z3n]
    simp only [x9h, z2a, z2b, gd_t z7m, zqz pre p (by simp; omega)]
    rcases hp with ⟨rfl, rfl⟩ | ⟨q, rfl, hq⟩
    · simp only [pivB]
      rw [show decide ((0 : Int) < (([] : List B).length : Int)) = false from rfl]
      cases h1 : lts last p
      · rfl
      · have i1 := ih h1
        have hw := zqz [] p (by simp)
        cases eqs hi [] <;> cases lts p hi <;> simp only [Bool.not_true, Bool.not_false, cond_true, cond_false, Bool.true_and, Bool.false_and, Bool.true_or, Bool.false_or, hw, i1]
    · have e1 : decide ((0 : Int) < ((q ++ [last]).length : Int)) = true := by simp; try omega
      have e2 : IntKind.wrap .i64 (((q ++ [last]).length : Int) - 1) = (q.length : Int) := by
        simp at hb'
        rw [w64 (by simp; try omega) (by simp; try omega)]; simp
      have e3 : rdL (q ++ [last] ++ p :: post) (q.length : Int) ([] : B) = last := by rw [← z2j]; exact z3n
      have e4 : inB (q.length : Int) (q ++ [last] ++ p :: post).length = true := z6t (by omega) (by simp; omega)
      simp only [e1, e2, e3, gd_t e4, cond_true, pivB]
      cases h1 : lts lo p
      · -- p ≤ lo < last
        have h2 : lts last p = false := by
          cases h : lts last p
          · rfl
          · rw [z0s hq h] at h1; cases h1
        rw [h2]
        rfl
      · have i1 := ih h1
        have hq2 : (q ++ [last]).length = q.length + 1 := by simp
        have hw := zqz (q ++ [last]) p (by simp; omega)
        cases eqs hi [] <;> cases lts p hi <;> cases lts last p <;> simp only [Bool.not_true, Bool.not_false, cond_true, cond_false, Bool.true_and, Bool.false_and, Bool.true_or, Bool.false_or, hw, i1]
theorem xcn {l : List B} (h : l.length < 100000) (s : Sp) : zkj NN l s = some (pivB s.1 s.2 l) := by
  have := x72 s.1 s.2 l [] s.1 NN (by simp only [NN]; omega) (by simp only [Big, List.nil_append]; omega) (.inl ⟨rfl, rfl⟩)
  simp only [List.nil_append, List.length_nil] at this
  rw [show ((0 : Nat) : Int) = 0 from rfl] at this
  unfold zkj
  rw [this]
  cases pivB s.1 s.2 l <;> rfl
def rngB (r : y9) : Bool := decide (0 ≤ r.1) && (decide (r.1 ≤ r.2) && decide (r.2 ≤ 1000000000000000))
def sumB (s : Z4) : Bool := rngB s.1 && rngB s.2
theorem x4y (N : Nat) (r : y9) : zi7 N r = some (rngB r) := by
  simp only [zi7, rngB]
  cases decide (0 ≤ r.1) <;> cases decide (r.1 ≤ r.2) <;> rfl
theorem yuq (a b : Int) : decide (a < b) = !(decide (b ≤ a)) := by by_cases h : a < b <;> simp [h] <;> omega
theorem xcd (s : Z4) : zhq NN s = some (sumB s) := by
  have H := x1y (xs := [s.1, s.2]) (L := fun n i => z73 NN n (([s.1, s.2] : List y9).length : Int) i [s.1, s.2]) rngB (.inr ((), ())) (.inl (false, ())) (fun n => by
      simp only [zfs, z54]; rw [z5e (by simp)])
    (fun n pre x post hx => by
      have hl : ([s.1, s.2] : List y9).length = pre.length + (post.length + 1) := by rw [hx]; simp
      have hl2 : ([s.1, s.2] : List y9).length = 2 := rfl
      simp only [zfs, z54]
      rw [z9u (by rw [hl]; simp; omega), gd_t (z6t (by omega) (by omega)), zqz pre x (by simp; omega), show rdL ([s.1, s.2] : List y9) (pre.length : Int) zb4 = x by rw [hx]; exact z3n]
      simp only [yuq, rngB]
      cases decide (0 ≤ x.1) <;> cases decide (x.1 ≤ x.2) <;> cases decide (x.2 ≤ 1000000000000000) <;> rfl)
    (n := NN) (by simp only [NN, List.length_cons, List.length_nil]; omega)
  unfold zhq
  simp only
  rw [H]
  simp only [List.all_cons, List.all_nil, Bool.and_true, sumB]
  cases rngB s.1 <;> cases rngB s.2 <;> rfl
def kidB (x : Int × Z4) : Bool := inR x.1 0 4095 && sumB x.2
def innB (n : Nd) (s : Sp) : Bool := pivB s.1 s.2 n.2.1 && ((n.2.2.1.zip n.2.2.2.1).all kidB && n.2.2.2.2.all (msgB s))
def xc6 (n : Nd) (s : Sp) : Bool := (n.2.1.isEmpty && (n.2.2.2.1.isEmpty && n.2.2.2.2.isEmpty)) && (upB n.1 && n.1.all (x1t s))
def valB (n : Nd) (s : Sp) : Bool :=
  bif n.2.2.1.isEmpty then xc6 n s else
  (n.1.isEmpty && (eqi (n.2.2.2.1.length : Int) (n.2.2.1.length : Int) && eqi (n.2.1.length : Int) ((n.2.2.1.length : Int) - 1))) && innB n s
abbrev xbx (n : Nd) : Prop := n.1.length < 50000 ∧ n.2.1.length < 50000 ∧ n.2.2.1.length < 50000 ∧ n.2.2.2.1.length < 50000 ∧ n.2.2.2.2.length < 50000
theorem xdc (s : Sp) (b3 : List Pr) (b4 : List B) (kids : List Int) (sums : List Z4) (b7 : List Mg) (he : sums.length = kids.length) (hl : kids.length < 50000) :
    z9k NN NN kids (kids.length : Int) 0 b3 b4 kids sums b7 s.1 s.2 = some (bif (kids.zip sums).all kidB then .inr (((), ()), ((b3, (b4, (kids, (sums, b7)))), ((s.1, s.2), ()))) else .inl (false, ())) ∧
    z7l NN NN 0 b3 b4 kids sums b7 s.1 s.2 = some (bif (kids.zip sums).all kidB then .inr (((), ()), ((b3, (b4, (kids, (sums, b7)))), ((s.1, s.2), ()))) else .inl (false, ())) := by
  have hz : (kids.zip sums).length = kids.length := by rw [List.length_zip, he, Nat.min_self]
  have hk : ∀ pre x post, kids.zip sums = pre ++ x :: post → rdL kids (pre.length : Int) 0 = x.1 ∧ rdL sums (pre.length : Int) J4 = x.2 := fun pre x post hx => by
    have e1 : kids = pre.map (·.1) ++ x.1 :: post.map (·.1) := by
      have := List.map_fst_zip (l₁ := kids) (l₂ := sums) (by omega)
      rw [hx] at this
      rw [← this]; simp
    have e2 : sums = pre.map (·.2) ++ x.2 :: post.map (·.2) := by
      have := List.map_snd_zip (l₁ := kids) (l₂ := sums) (by omega)
      rw [hx] at this
      rw [← this]; simp
    constructor
    · have : rdL (pre.map (·.1) ++ x.1 :: post.map (·.1)) ((pre.map (·.1)).length : Int) 0 = x.1 := z3n
      rw [List.length_map] at this
      rw [e1]; exact this
    · have : rdL (pre.map (·.2) ++ x.2 :: post.map (·.2)) ((pre.map (·.2)).length : Int) J4 = x.2 := z3n
      rw [List.length_map] at this
      rw [e2]; exact this
  constructor
  · refine x1y (xs := kids.zip sums) (L := fun n i => z9k NN n kids (kids.length : Int) i b3 b4 kids sums b7 s.1 s.2) kidB _ _ (fun n => by
      simp only [zln, z80, hz]; rw [z5e (by simp)])
      (fun n pre x post hx => ?_) (by rw [hz]; simp only [NN]; omega)
    have hl2 : kids.length = pre.length + (post.length + 1) := by rw [← hz, hx]; simp
    obtain ⟨r1, r2⟩ := hk pre x post hx
    have h2 : inR x.1 0 4095 = (!(decide (x.1 < 0)) && !(decide (4096 ≤ x.1))) := by rw [Bool.eq_iff_iff, zcg]; simp; omega
    simp only [zln, z80]
    rw [z9u (by simp; omega), gd_t (z6t (by omega) (by omega)), r1, gd_t (z6t (by omega) (by omega)), r2, xcd, zqz pre x (by simp; omega)]
    simp only [kidB, h2]
    cases decide (x.1 < 0) <;> cases decide (4096 ≤ x.1) <;> cases sumB x.2 <;> rfl
  · refine x1y (xs := kids.zip sums) (L := fun n i => z7l NN n i b3 b4 kids sums b7 s.1 s.2) kidB _ _ (fun n => by
      simp only [zj9, z6o, hz]; rw [z5e (by simp)])
      (fun n pre x post hx => ?_) (by rw [hz]; simp only [NN]; omega)
    have hl2 : kids.length = pre.length + (post.length + 1) := by rw [← hz, hx]; simp
    obtain ⟨r1, r2⟩ := hk pre x post hx
    simp only [zj9, z6o]
    rw [z9u (by simp; omega), gd_t (z6t (by omega) (by omega)), r1, xc7, gd_t (z6t (by omega) (by omega)), r2, x4y, x4y, gd_t (z6t (by omega) (by omega)), zqz pre x (by simp; omega)]
    simp only [kidB, sumB]
    cases inR x.1 0 4095 <;> cases rngB x.2.1 <;> cases rngB x.2.2 <;> rfl
theorem x9x (s : Sp) (b1 : List Pr) (b2 : List B) (b3 : List Int) (b4 : List Z4) {t : List Mg} (h : t.length < 50000) :
    z7k NN NN 0 b1 b2 b3 b4 t s.1 s.2 = some (bif t.all (msgB s) then .inr ((), ()) else .inl (false, ())) := by
  refine x1y (xs := t) (L := fun n i => z7k NN n i b1 b2 b3 b4 t s.1 s.2) (msgB s) _ _ (fun n => by
      simp only [zj8, z6n]; rw [z5e (by simp)])
      (fun n pre x post hx => ?_) (by simp only [NN]; omega)
  have hl2 : t.length = pre.length + (post.length + 1) := by rw [hx]; simp
  have r1 : rdL t (pre.length : Int) Y6 = x := by rw [hx]; exact z3n
  simp only [zj8, z6n]
  rw [z9u (by simp; omega), gd_t (z6t (by omega) (by omega)), r1, yyp, gd_t (z6t (by omega) (by omega)), zqz pre x (by simp; omega)]
  simp only [msgB]
  cases hv : vldB x
  · rfl
  · rw [show ((s.1, s.2) : Sp) = s from rfl, x2r s hv]
    cases insB s x <;> rfl
theorem isE {α : Type} (l : List α) : eqi (l.length : Int) 0 = l.isEmpty := by
  cases l with
  | nil => rfl
  | cons x r => simp [eqi]; omega
theorem posE {α : Type} (l : List α) : decide ((0 : Int) < (l.length : Int)) = !(l.isEmpty) := by cases l <;> simp
theorem x9y (s : Sp) (b2 : List B) (b3 : List Int) (b4 : List Z4) (b5 : List Mg) {t : List Pr} (h : t.length < 50000) :
    z9h NN NN 0 t b2 b3 b4 b5 s.1 s.2 = some (bif t.all (x1t s) then .inr ((), ()) else .inl (false, ())) := by
  refine x1y (xs := t) (L := fun n i => z9h NN n i t b2 b3 b4 b5 s.1 s.2) (x1t s) _ _ (fun n => by
      simp only [zlj, z7w]; rw [z5e (by simp)])
      (fun n pre x post hx => ?_) (by simp only [NN]; omega)
  have hl2 : t.length = pre.length + (post.length + 1) := by rw [hx]; simp
  have r1 : rdL t (pre.length : Int) X8 = x := by rw [hx]; exact z3n
  simp only [zlj, z7w]
  rw [z9u (by simp; omega), gd_t (z6t (by omega) (by omega)), r1, xct, zqz pre x (by simp; omega)]
  simp only [xc7, x1t, x9a, yuq, show ((s.1, s.2) : Sp) = s from rfl]
  cases hasB s x.1 <;> cases inR (x.1.length : Int) 1 65535 <;> cases decide ((x.2.1.length : Int) ≤ 64) <;> cases inR x.2.2 0 1000000000 <;> rfl
theorem xcs {n : Nd} (h : xbx n) (s : Sp) : zq3 NN n s = some (valB n s) := by
  obtain ⟨a, b, c, d, e⟩ := n
  obtain ⟨h1, h2, h3, h4, h5⟩ := h
  simp only at h1 h2 h3 h4 h5
  unfold zq3 valB
  simp only [isE, posE]
  cases hc : c.isEmpty
  · simp only [cond_false]
    cases ha : a.isEmpty
    · rfl
    · simp only [Bool.not_true, cond_false, Bool.true_and]
      cases hd : eqi (d.length : Int) (c.length : Int)
      · rfl
      · simp only [Bool.not_true, cond_false, Bool.true_and]
        have hcl : c.length ≠ 0 := by cases c with
          | nil => simp at hc
          | cons _ _ => simp
        rw [w64 (by omega) (by omega)]
        cases hb : eqi (b.length : Int) ((c.length : Int) - 1)
        · rfl
        · simp only [Bool.not_true, cond_false, Bool.true_and]
          have hd' : d.length = c.length := by have := w7.1 hd; omega
          rw [xcn (by omega)]
          simp only [innB]
          cases pivB s.1 s.2 b
          · rfl
          · simp only [cond_true, cond_false, Bool.not_true, Bool.true_and]
            unfold zm5
            rw [(xdc s a b c d e hd' h3).2]
            cases (c.zip d).all kidB
            · rfl
            · simp only [cond_true, Bool.true_and]
              rw [x9x s a b c d h5]
              cases e.all (msgB s) <;> rfl
  · simp only [cond_true]
    unfold ycz
    simp only [posE, xc6]
    cases b.isEmpty
    · rfl
    · cases d.isEmpty
      · rfl
      · cases e.isEmpty
        · rfl
        · simp only [Bool.not_true, cond_false, Bool.and_self, Bool.true_and]
          rw [xeb (by omega)]
          simp only
          cases upB a
          · rfl
          · simp only [Bool.not_true, cond_false, Bool.true_and]
            rw [x9y s b c d e h1]
            cases a.all (x1t s) <;> rfl
end Ds
