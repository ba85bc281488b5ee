/- What messages do to the totals of tables. -/
import Derived.Test.YtpgikdaeicidaaaGreatDoorDsApply
import Derived.Test.YtpgikdaeicidaaaGreatDoorDsPaths
set_option linter.all false
namespace Ds
open Go Go.Dv
set_option maxRecDepth 100000
set_option linter.unusedVariables false
def sm (c : Pr → Int) : List Pr → Int
  | [] => 0
  | x :: r => c x + sm c r
theorem xbg (c : Pr → Int) : ∀ a b : List Pr, sm c (a ++ b) = sm c a + sm c b
  | [], b => by simp [sm]
  | x :: r, b => by simp [sm, xbg c r b]; omega
theorem z9y (c : Pr → Int) (f : Pr → Bool) : ∀ t : List Pr, sm c (t.filter f) = sm (fun x => bif f x then c x else 0) t
  | [] => rfl
  | x :: r => by
    have ih := z9y c f r
    cases e : f x
    · rw [List.filter_cons_of_neg (by simp [e]), ih]; simp [sm, e]
    · rw [List.filter_cons_of_pos e]; simp [sm, e, ih]
theorem zg3 {c d : Pr → Int} : ∀ {t : List Pr}, (∀ x ∈ t, c x = d x) → sm c t = sm d t
  | [], _ => rfl
  | x :: r, h => by simp only [sm]; rw [h x (by simp), zg3 (t := r) (fun y hy => h y (by simp [hy]))]
theorem x1s (c : Pr → Int) (f : Pr → Pr) : ∀ t : List Pr, sm c (t.map f) = sm (fun x => c (f x)) t
  | [] => rfl
  | x :: r => by simp [sm, x1s c f r]
theorem yqm (c d : Pr → Int) : ∀ t : List Pr, sm c t + sm d t = sm (fun x => c x + d x) t
  | [] => rfl
  | x :: r => by simp only [sm]; rw [← yqm c d r]; omega
theorem x9b {c d : Pr → Int} : ∀ {t : List Pr}, (∀ x ∈ t, c x ≤ d x) → sm c t ≤ sm d t
  | [], _ => by simp [sm]
  | x :: r, h => by
    have h1 := h x (by simp)
    have h2 := x9b (t := r) (fun y hy => h y (by simp [hy]))
    simp only [sm]; omega
theorem yjg {c : Pr → Int} : ∀ {t : List Pr}, (∀ x ∈ t, c x = 0) → sm c t = 0
  | [], _ => rfl
  | x :: r, h => by simp only [sm]; rw [h x (by simp), yjg (t := r) (fun y hy => h y (by simp [hy]))]; rfl
theorem yql {c : Pr → Int} {t : List Pr} (h : ∀ x ∈ t, 0 ≤ c x) : 0 ≤ sm c t := by
  have := x9b (c := fun _ => 0) (d := c) (t := t) h
  rwa [yjg (t := t) (fun _ _ => rfl)] at this
theorem yhq {c : Pr → Int} {k : Int} : ∀ {t : List Pr}, (∀ x ∈ t, c x ≤ k) → sm c t ≤ k * (t.length : Int)
  | [], _ => by simp [sm]
  | x :: r, h => by
    have h1 := h x (by simp)
    have h2 := yhq (t := r) (fun y hy => h y (by simp [hy]))
    have e : k * ((x :: r).length : Int) = k * (r.length : Int) + k := by
      rw [List.length_cons]; rw [show ((r.length + 1 : Nat) : Int) = (r.length : Int) + 1 from rfl, Int.mul_add, Int.mul_one]
    simp only [sm]; omega
def atK (c : Pr → Int) (k : B) (x : Pr) : Int := bif eqs k x.1 then c x else 0
theorem sm_at (c : Pr → Int) (k : B) : ∀ {t : List Pr}, Srt t → sm (atK c k) t = 0 ∨ ∃ x ∈ t, x.1 = k ∧ sm (atK c k) t = c x
  | [], _ => .inl rfl
  | y :: r, h => by
    obtain ⟨h1, h2⟩ := List.pairwise_cons.1 h
    cases e : eqs k y.1
    · rcases sm_at c k h2 with g | ⟨x, g1, g2, g3⟩
      · left; simp only [sm, g]; simp [atK, e]
      · right; exact ⟨x, by simp [g1], g2, by simp only [sm, g3]; simp [atK, e]⟩
    · right
      have ek := z1d.1 e
      refine ⟨y, by simp, ek.symm, ?_⟩
      have z : sm (atK c k) r = 0 := yjg fun x hx => by
        have := h1 x hx
        have hne : eqs k x.1 = false := by
          cases e2 : eqs k x.1
          · rfl
          · rw [← ek, ← z1d.1 e2, z2d] at this; cases this
        simp [atK, hne]
      simp only [sm, z]; simp [atK, e]
theorem xbe (c : Pr → Int) (k : B) (t : List Pr) : sm c (t.filter fun x => !(eqs k x.1)) = sm c t - sm (atK c k) t := by
  have := yqm (fun x => bif !(eqs k x.1) then c x else 0) (atK c k) t
  rw [z9y]
  have e : sm (fun x => (bif !(eqs k x.1) then c x else 0) + atK c k x) t = sm c t := zg3 fun x _ => by
    unfold atK; cases eqs k x.1 <;> simp
  omega
theorem x0z (c : Pr → Int) (p : Pr) (t : List Pr) : sm c (insT p t) = c p + (sm c t - sm (atK c p.1) t) := by
  unfold insT
  rw [xbg]
  show sm c (t.filter _) + (c p + sm c (t.filter _)) = _
  rw [z9y, z9y]
  have h1 := yqm (fun x : Pr => bif lts x.1 p.1 then c x else 0) (fun x : Pr => bif lts p.1 x.1 then c x else 0) t
  have h2 := yqm (fun x : Pr => (bif lts x.1 p.1 then c x else 0) + (bif lts p.1 x.1 then c x else 0)) (atK c p.1) t
  have h3 : sm (fun x : Pr => ((bif lts x.1 p.1 then c x else 0) + (bif lts p.1 x.1 then c x else 0)) + atK c p.1 x) t = sm c t := zg3 fun x _ => by
    unfold atK
    rcases lts_tri x.1 p.1 with h | h | h
    · rw [h, z4p h, z6c (fun g => by rw [g, z2d] at h; cases h)]; simp
    · rw [h, z2d]; simp
    · rw [h, z4p h, z6c (fun g => by rw [g, z2d] at h; cases h)]; simp
  omega
theorem xbd (c : Pr → Int) : ∀ {b a : List Pr}, Srt b → (∀ x ∈ b, ∀ y ∈ a, x.1 ≠ y.1) → sm c (uniT a b) = sm c a + sm c b
  | [], a, _, _ => by simp [uniT, sm]
  | p :: b, a, hb, h => by
    obtain ⟨h1, h2⟩ := List.pairwise_cons.1 hb
    have e : uniT a (p :: b) = uniT (insT p a) b := rfl
    rw [e, xbd c h2 (fun x hx y hy => by
      rcases insT_mem hy with rfl | hy
      · intro g; have := h1 x hx; rw [g, z2d] at this; cases this
      · exact h x (by simp [hx]) y hy), x0z]
    have z : sm (atK c p.1) a = 0 := yjg fun y hy => by
      unfold atK; rw [z6c (h p (by simp) y hy)]; rfl
    simp only [sm]; omega
abbrev Like (c : Pr → Int) (p q : B) (t : List Pr) : Prop := ∀ x ∈ t, p.isPrefixOf x.1 = true → c (q ++ x.1.drop p.length, x.2) = c x
theorem xbf {c : Pr → Int} {p q : B} {t : List Pr} (hc : Like c p q t) : sm c (mvd p q t) = sm c (t.filter fun x => p.isPrefixOf x.1) := by
  unfold mvd
  rw [x1s]
  exact zg3 fun x hx => hc x (List.mem_filter.1 hx).1 (List.mem_filter.1 hx).2
theorem x7a {p q : B} {t : List Pr} {x : Pr} (h : x ∈ mvd p q t) : q.isPrefixOf x.1 = true := by
  unfold mvd at h
  obtain ⟨y, hy, rfl⟩ := List.mem_map.1 h
  exact List.isPrefixOf_iff_prefix.2 (List.prefix_append _ _)
theorem x3v (c : Pr → Int) {p q : B} {t : List Pr} (hs : Srt t) : sm c (z8f p q t) = sm c (t.filter fun x => !(q.isPrefixOf x.1)) + sm c (mvd p q t) := by
  unfold z8f
  refine xbd c (hs.mvd p q) fun x hx y hy g => ?_
  have h1 := x7a hx
  have h2 := (List.mem_filter.1 hy).2
  rw [← g, h1] at h2; cases h2
theorem yua {c : Pr → Int} {t : List Pr} (h : ∀ x ∈ t, 0 ≤ c x) (f : Pr → Bool) : 0 ≤ sm c (t.filter f) ∧ sm c (t.filter f) ≤ sm c t := by
  rw [z9y]
  exact ⟨yql fun x hx => by have := h x hx; cases f x <;> simp [this], x9b fun x hx => by have := h x hx; cases f x <;> simp [this]⟩
theorem ymf {c : Pr → Int} {p q : B} {t : List Pr} (hs : Srt t) (h : ∀ x, 0 ≤ c x) (hc : Like c p q t) : 0 ≤ sm c (z8f p q t) ∧ sm c (z8f p q t) ≤ sm c t + sm c t := by
  rw [x3v c hs, xbf hc]
  have h1 := yua (t := t) (fun x _ => h x) fun x => !(q.isPrefixOf x.1)
  have h2 := yua (t := t) (fun x _ => h x) fun x => p.isPrefixOf x.1
  omega
theorem xa6 {p q k : B} (ha : p.isPrefixOf q = false) (hb : q.isPrefixOf p = false) (h1 : p.isPrefixOf k = true) (h2 : q.isPrefixOf k = true) : False := by
  have h1 := List.isPrefixOf_iff_prefix.1 h1
  have h2 := List.isPrefixOf_iff_prefix.1 h2
  rcases List.prefix_or_prefix_of_prefix h1 h2 with h | h
  · rw [List.isPrefixOf_iff_prefix.2 h] at ha; cases ha
  · rw [List.isPrefixOf_iff_prefix.2 h] at hb; cases hb
theorem yub {c : Pr → Int} {p q : B} {t : List Pr} (hs : Srt t) (h : ∀ x, 0 ≤ c x) (hc : Like c p q t) (ha : p.isPrefixOf q = false) (hb : q.isPrefixOf p = false) :
    0 ≤ sm c ((z8f p q t).filter fun x => !(p.isPrefixOf x.1)) ∧ sm c ((z8f p q t).filter fun x => !(p.isPrefixOf x.1)) ≤ sm c t := by
  refine ⟨by rw [z9y]; exact yql fun x _ => by have := h x; cases p.isPrefixOf x.1 <;> simp [this], ?_⟩
  rw [z9y, x3v _ hs]
  have e1 : sm (fun x => bif !(p.isPrefixOf x.1) then c x else 0) (mvd p q t) = sm c (mvd p q t) := zg3 fun x hx => by
    have g : p.isPrefixOf x.1 = false := by
      cases e : p.isPrefixOf x.1
      · rfl
      · exact (xa6 ha hb e (x7a hx)).elim
    rw [g]; rfl
  rw [e1, xbf hc, z9y, z9y, yqm]
  refine x9b fun x _ => ?_
  have := h x
  cases e1 : q.isPrefixOf x.1 <;> cases e2 : p.isPrefixOf x.1 <;> simp [this]
def entK (k : B) : Bool := match z2c NN k with | some r => bif eqi r.2 0 then eqi r.1.2.1 1 else false | none => false
def byK (k : B) : Bool := match z2c NN k with | some r => bif eqi r.2 0 then !(eqi r.1.2.1 1) && !(eqi r.1.2.1 4) else false | none => false
theorem ylw (k : B) (h : k.length < 600000000) : ∃ r, z2c NN k = some r := by
  by_cases hk : ∃ p t n m, Pa.KeyIs k p t n m
  · obtain ⟨p, t, n, m, hk⟩ := hk; exact ⟨_, Pa.Place_yes hk h⟩
  · exact ⟨_, Pa.Place_no (fun p t n m g => hk ⟨p, t, n, m, g⟩) h⟩
def cI (x : Pr) : Int := bif entK x.1 then 1 else 0
def cB (x : Pr) : Int := bif byK x.1 then (x.2.1.length : Int) else 0
theorem x90 (x : Pr) (h : x.1.length < 600000000) : z3x NN x = some (cI x, cB x) := by
  obtain ⟨r, hr⟩ := ylw x.1 h
  simp only [z3x, hr, cI, cB, entK, byK]
  cases eqi r.2 0
  · rfl
  · simp only [Bool.not_true, cond_false, cond_true]
    cases e1 : eqi r.1.2.1 1 <;> cases e2 : eqi r.1.2.1 4 <;> simp
theorem yvs {k : B} (h : entK k = true) : byK k = false := by
  unfold entK at h; unfold byK
  cases e : z2c NN k with
  | none => rfl
  | some r =>
    rw [e] at h
    simp only at h ⊢
    cases e2 : eqi r.2 0
    · rfl
    · rw [e2, cond_true] at h; simp [h]
theorem zv5 (x : Pr) : 0 ≤ cI x ∧ cI x ≤ 1 := by unfold cI; cases entK x.1 <;> simp
theorem zqy (x : Pr) : 0 ≤ cB x ∧ cB x ≤ (x.2.1.length : Int) := by unfold cB; cases byK x.1 <;> simp
end Ds
