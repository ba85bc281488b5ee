/- The order of byte strings, and tables: lists of pairs in the order of their keys (plain lists, no program in sight). -/
import Derived.Test.YtmffojmbfphidaaDoorDvPlain
set_option linter.all false
namespace Ds
open Go Go.Dv

/-! ## the order -/
theorem u8_tri (a b : UInt8) : a < b ∨ a = b ∨ b < a := by
  rcases Nat.lt_trichotomy a.toNat b.toNat with h | h | h
  · exact .inl h
  · exact .inr (.inl (UInt8.toNat_inj.1 h))
  · exact .inr (.inr h)

theorem lts_nil (a : List UInt8) : lts a [] = false := by cases a <;> rfl
theorem lts_cons (a b : UInt8) (x y : List UInt8) : lts (a :: x) (b :: y) = (decide (a < b) || (a == b && lts x y)) := rfl

theorem lts_irrefl : ∀ a : List UInt8, lts a a = false
  | [] => rfl
  | a :: x => by rw [lts_cons, lts_irrefl x]; simp [UInt8.lt_irrefl]

theorem lts_trans : ∀ {a b c : List UInt8}, lts a b = true → lts b c = true → lts a c = true
  | _, [], _, h, _ => by rw [lts_nil] at h; cases h
  | _, _ :: _, [], _, h => by rw [lts_nil] at h; cases h
  | [], _ :: _, _ :: _, _, _ => rfl
  | a :: x, b :: y, c :: z, h, g => by
    rw [lts_cons] at h g ⊢
    simp only [Bool.or_eq_true, decide_eq_true_eq, Bool.and_eq_true, beq_iff_eq] at h g ⊢
    rcases h with h | ⟨rfl, h⟩
    · rcases g with g | ⟨rfl, g⟩
      · exact .inl (UInt8.lt_trans h g)
      · exact .inl h
    · rcases g with g | ⟨rfl, g⟩
      · exact .inl g
      · exact .inr ⟨rfl, lts_trans h g⟩

theorem lts_tri : ∀ a b : List UInt8, lts a b = true ∨ a = b ∨ lts b a = true
  | [], [] => .inr (.inl rfl)
  | [], _ :: _ => .inl rfl
  | _ :: _, [] => .inr (.inr rfl)
  | a :: x, b :: y => by
    rw [lts_cons, lts_cons]
    simp only [Bool.or_eq_true, decide_eq_true_eq, Bool.and_eq_true, beq_iff_eq, List.cons.injEq]
    rcases u8_tri a b with h | rfl | h
    · exact .inl (.inl h)
    · rcases lts_tri x y with h | h | h
      · exact .inl (.inr ⟨rfl, h⟩)
      · exact .inr (.inl ⟨rfl, h⟩)
      · exact .inr (.inr (.inr ⟨rfl, h⟩))
    · exact .inr (.inr (.inl h))

theorem lts_asymm {a b : List UInt8} (h : lts a b = true) : lts b a = false := by
  cases e : lts b a
  · rfl
  · have := lts_trans h e; rw [lts_irrefl] at this; cases this
theorem lts_ne {a b : List UInt8} (h : lts a b = true) : a ≠ b := by
  rintro rfl; rw [lts_irrefl] at h; cases h
/-- a ≤ b, b < c -/
theorem le_lts {a b c : List UInt8} (h : lts b a = false) (g : lts b c = true) : lts a c = true := by
  rcases lts_tri a b with e | rfl | e
  · exact lts_trans e g
  · exact g
  · rw [h] at e; cases e
theorem lts_le {a b c : List UInt8} (h : lts a b = true) (g : lts c b = false) : lts a c = true := by
  rcases lts_tri b c with e | rfl | e
  · exact lts_trans h e
  · exact h
  · rw [g] at e; cases e
theorem le_le {a b c : List UInt8} (h : lts b a = false) (g : lts c b = false) : lts c a = false := by
  cases e : lts c a
  · rfl
  · have := lts_le e h; rw [g] at this; cases this
theorem eq_of_le {a b : List UInt8} (h : lts b a = false) (g : lts a b = false) : a = b := by
  rcases lts_tri a b with e | e | e
  · rw [g] at e; cases e
  · exact e
  · rw [h] at e; cases e
theorem lts_nil_l (a : List UInt8) : lts [] a = !(eqs a []) := by cases a <;> rfl

theorem lts_app (p : List UInt8) : ∀ a b : List UInt8, lts (p ++ a) (p ++ b) = lts a b := by
  intro a b
  induction p with
  | nil => rfl
  | cons c p ih => simp only [List.cons_append, lts_cons, ih]; simp [UInt8.lt_irrefl]

/-! ## tables -/
section tab
variable {V : Type}
/-- the pairs are in the order of their keys -/
def Srt (t : List (List UInt8 × V)) : Prop := t.Pairwise fun p q => lts p.1 q.1 = true

/-- what a table has at a key -/
def fnd : List (List UInt8 × V) → List UInt8 → Option V
  | [], _ => none
  | p :: t, k => bif eqs p.1 k then some p.2 else fnd t k

theorem fnd_none {t : List (List UInt8 × V)} {k : List UInt8} (h : ∀ p ∈ t, p.1 ≠ k) : fnd t k = none := by
  induction t with
  | nil => rfl
  | cons p t ih =>
    simp only [fnd]
    rw [eqs_ne (h p (by simp)), cond_false]
    exact ih fun q hq => h q (by simp [hq])

theorem fnd_mem {t : List (List UInt8 × V)} {k : List UInt8} {v : V} (h : fnd t k = some v) : (k, v) ∈ t := by
  induction t with
  | nil => cases h
  | cons p t ih =>
    simp only [fnd] at h
    cases e : eqs p.1 k
    · rw [e, cond_false] at h; simp [ih h]
    · rw [e, cond_true] at h; cases h; have := eqs_iff.1 e; subst this; simp

theorem Srt.mem_fnd {t : List (List UInt8 × V)} (hs : Srt t) {k : List UInt8} {v : V} (h : (k, v) ∈ t) : fnd t k = some v := by
  induction t with
  | nil => cases h
  | cons p t ih =>
    obtain ⟨h1, h2⟩ := List.pairwise_cons.1 hs
    simp only [fnd]
    rcases List.mem_cons.1 h with rfl | h
    · simp
    · have := h1 _ h
      rw [eqs_ne (lts_ne this), cond_false]
      exact ih h2 h

theorem Srt.ext : ∀ {a b : List (List UInt8 × V)}, Srt a → Srt b → (∀ k, fnd a k = fnd b k) → a = b
  | [], [], _, _, _ => rfl
  | [], q :: b, _, _, h => by have := h q.1; simp [fnd] at this
  | p :: a, [], _, _, h => by have := h p.1; simp [fnd] at this
  | p :: a, q :: b, ha, hb, h => by
    obtain ⟨a1, a2⟩ := List.pairwise_cons.1 ha
    obtain ⟨b1, b2⟩ := List.pairwise_cons.1 hb
    have key : p.1 = q.1 := by
      rcases lts_tri p.1 q.1 with e | e | e
      · have h1 := h p.1
        have : fnd (q :: b) p.1 = none := fnd_none (by
          intro x hx
          rcases List.mem_cons.1 hx with rfl | hx
          · exact (lts_ne e).symm
          · exact (lts_ne (lts_trans e (b1 _ hx))).symm)
        rw [this] at h1; simp [fnd] at h1
      · exact e
      · have h1 := h q.1
        have : fnd (p :: a) q.1 = none := fnd_none (by
          intro x hx
          rcases List.mem_cons.1 hx with rfl | hx
          · exact (lts_ne e).symm
          · exact (lts_ne (lts_trans e (a1 _ hx))).symm)
        rw [this] at h1; simp [fnd] at h1
    have hv : p.2 = q.2 := by
      have h1 := h p.1
      simp only [fnd, eqs_self, cond_true, key] at h1
      exact Option.some.inj h1
    have ht : a = b := Srt.ext a2 b2 fun k => by
      have h1 := h k
      simp only [fnd, ← key] at h1
      cases e : eqs p.1 k
      · rw [e] at h1; exact h1
      · have := eqs_iff.1 e; subst this
        rw [fnd_none fun x hx => (lts_ne (a1 x hx)).symm, fnd_none fun x hx => (lts_ne (key ▸ b1 x hx)).symm]
    rw [Prod.ext key hv, ht]

theorem fnd_filter (f : List UInt8 → Bool) (t : List (List UInt8 × V)) (k : List UInt8) : fnd (t.filter fun p => f p.1) k = bif f k then fnd t k else none := by
  induction t with
  | nil => simp [fnd]
  | cons p t ih =>
    cases e : f p.1
    · rw [List.filter_cons_of_neg (by simp [e]), ih]
      simp only [fnd]
      cases e2 : eqs p.1 k
      · rfl
      · have := eqs_iff.1 e2; subst this; rw [e]; rfl
    · rw [List.filter_cons_of_pos (by simp [e])]
      simp only [fnd, ih]
      cases e2 : eqs p.1 k
      · rfl
      · have := eqs_iff.1 e2; subst this; rw [e]; rfl

theorem Srt.filter {t : List (List UInt8 × V)} (h : Srt t) (f : List UInt8 × V → Bool) : Srt (t.filter f) := List.Pairwise.filter f h

theorem Srt.map {t : List (List UInt8 × V)} (h : Srt t) {f : List UInt8 × V → List UInt8 × V} (hf : ∀ p, (f p).1 = p.1) : Srt (t.map f) := by
  unfold Srt
  rw [List.pairwise_map]
  exact h.imp fun h => by rw [hf, hf]; exact h

theorem fnd_map (g : List UInt8 → V → V) (t : List (List UInt8 × V)) (k : List UInt8) : fnd (t.map fun p => (p.1, g p.1 p.2)) k = (fnd t k).map (g k) := by
  induction t with
  | nil => rfl
  | cons p t ih =>
    simp only [List.map_cons, fnd]
    cases e : eqs p.1 k
    · exact ih
    · have := eqs_iff.1 e; subst this; rfl

theorem fnd_append (a b : List (List UInt8 × V)) (k : List UInt8) : fnd (a ++ b) k = match fnd a k with | some v => some v | none => fnd b k := by
  induction a with
  | nil => rfl
  | cons p a ih =>
    simp only [List.cons_append, fnd]
    cases eqs p.1 k
    · exact ih
    · rfl

/-- keys that begin with a text, with another one instead -/
def mvd (p q : List UInt8) (t : List (List UInt8 × V)) : List (List UInt8 × V) := (t.filter fun x => p.isPrefixOf x.1).map fun x => (q ++ x.1.drop p.length, x.2)

theorem prefix_split {p k : List UInt8} (h : p.isPrefixOf k = true) : p ++ k.drop p.length = k := by
  obtain ⟨r, rfl⟩ := List.isPrefixOf_iff_prefix.1 h
  simp

theorem Srt.mvd {t : List (List UInt8 × V)} (h : Srt t) (p q : List UInt8) : Srt (mvd p q t) := by
  unfold Srt Ds.mvd
  rw [List.pairwise_map]
  refine List.Pairwise.imp_of_mem ?_ (h.filter _)
  intro x y hx hy hxy
  have ex := prefix_split (List.mem_filter.1 hx).2
  have ey := prefix_split (List.mem_filter.1 hy).2
  simp only
  rw [lts_app]
  rw [← ex, ← ey, lts_app] at hxy
  exact hxy

theorem fnd_mvd (p q : List UInt8) (t : List (List UInt8 × V)) (k : List UInt8) : fnd (mvd p q t) k = bif q.isPrefixOf k then fnd t (p ++ k.drop q.length) else none := by
  unfold Ds.mvd
  induction t with
  | nil => simp [fnd]
  | cons x t ih =>
    cases e : p.isPrefixOf x.1
    · rw [List.filter_cons_of_neg (by simp [e]), ih]
      simp only [fnd]
      have : eqs x.1 (p ++ k.drop q.length) = false := eqs_ne (by
        intro h
        have : p.isPrefixOf x.1 = true := by rw [h]; simp
        rw [e] at this; cases this)
      rw [this]; rfl
    · rw [List.filter_cons_of_pos (by simp [e]), List.map_cons]
      simp only [fnd, ih]
      have ex := prefix_split e
      cases e2 : eqs (q ++ x.1.drop p.length) k
      · simp only [cond_false]
        cases e3 : q.isPrefixOf k
        · rfl
        · have : eqs x.1 (p ++ k.drop q.length) = false := eqs_ne (by
            intro h
            rw [h] at e2
            simp only [List.drop_left] at e2
            rw [prefix_split e3, eqs_self] at e2; cases e2)
          rw [this]; rfl
      · have := eqs_iff.1 e2; subst this
        have h1 : q.isPrefixOf (q ++ x.1.drop p.length) = true := by simp
        rw [h1]
        simp only [cond_true, List.drop_left]
        rw [ex, eqs_self]; rfl

/-! ## places -/
def cnt (t : List (List UInt8 × V)) (k : List UInt8) : Nat := (t.filter fun p => lts p.1 k).length
theorem cnt_le (t : List (List UInt8 × V)) (k : List UInt8) : cnt t k ≤ t.length := List.length_filter_le _ _

theorem Srt.take_cnt {t : List (List UInt8 × V)} (h : Srt t) (k : List UInt8) : t.take (cnt t k) = t.filter (fun p => lts p.1 k) ∧ t.drop (cnt t k) = t.filter (fun p => !(lts p.1 k)) := by
  induction t with
  | nil => exact ⟨rfl, rfl⟩
  | cons p t ih =>
    obtain ⟨h1, h2⟩ := List.pairwise_cons.1 h
    obtain ⟨i1, i2⟩ := ih h2
    cases e : lts p.1 k
    · have hno : ∀ q ∈ t, lts q.1 k = false := by
        intro q hq
        cases e2 : lts q.1 k
        · rfl
        · have := lts_trans (h1 q hq) e2; rw [e] at this; cases this
      have n : t.filter (fun p => lts p.1 k) = [] := List.filter_eq_nil_iff.2 fun q hq => by simp [hno q hq]
      have a : t.filter (fun p => !(lts p.1 k)) = t := List.filter_eq_self.2 fun q hq => by simp [hno q hq]
      have c : cnt (p :: t) k = 0 := by unfold cnt; rw [List.filter_cons_of_neg (by simp [e]), n]; rfl
      rw [c, List.filter_cons_of_neg (by simp [e]), n, List.filter_cons_of_pos (by simp [e]), a]
      exact ⟨rfl, rfl⟩
    · have c : cnt (p :: t) k = cnt t k + 1 := by unfold cnt; rw [List.filter_cons_of_pos (by simp [e])]; rfl
      rw [c, List.filter_cons_of_pos (by simp [e]), List.filter_cons_of_neg (by simp [e])]
      exact ⟨by rw [List.take_succ_cons, i1], by rw [List.drop_succ_cons, i2]⟩

theorem Srt.lt_cnt {t : List (List UInt8 × V)} (h : Srt t) {k : List UInt8} {i : Nat} {p : List UInt8 × V} (hp : t[i]? = some p) : lts p.1 k = true ↔ i < cnt t k := by
  induction t generalizing i with
  | nil => cases hp
  | cons q t ih =>
    obtain ⟨h1, h2⟩ := List.pairwise_cons.1 h
    cases e : lts q.1 k
    · have c : cnt (q :: t) k = 0 := by
        unfold cnt
        rw [List.filter_cons_of_neg (by simp [e]), List.filter_eq_nil_iff.2]
        · rfl
        · intro x hx
          cases e2 : lts x.1 k
          · simp
          · have := lts_trans (h1 x hx) e2; rw [e] at this; cases this
      rw [c]
      constructor
      · intro hl
        cases i with
        | zero => cases hp; rw [e] at hl; cases hl
        | succ i =>
          have hm : p ∈ t := List.mem_of_getElem? (by simpa using hp)
          have := lts_trans (h1 p hm) hl
          rw [e] at this; cases this
      · intro h; omega
    · have c : cnt (q :: t) k = cnt t k + 1 := by unfold cnt; rw [List.filter_cons_of_pos (by simp [e])]; rfl
      rw [c]
      cases i with
      | zero => cases hp; simp [e]
      | succ i =>
        rw [ih h2 (by simpa using hp)]; omega
end tab

/-! ## putting -/
section put
variable {V : Type}
/-- the pair stands for what there was at its key -/
def insT (p : List UInt8 × V) (t : List (List UInt8 × V)) : List (List UInt8 × V) := t.filter (fun q => lts q.1 p.1) ++ p :: t.filter (fun q => lts p.1 q.1)

theorem Srt.insT {t : List (List UInt8 × V)} (h : Srt t) (p : List UInt8 × V) : Srt (insT p t) := by
  unfold Srt Ds.insT
  rw [List.pairwise_append]
  refine ⟨h.filter _, List.pairwise_cons.2 ⟨fun q hq => (List.mem_filter.1 hq).2, h.filter _⟩, ?_⟩
  intro a ha b hb
  have ha := (List.mem_filter.1 ha).2
  rcases List.mem_cons.1 hb with rfl | hb
  · exact ha
  · exact lts_trans ha (List.mem_filter.1 hb).2

theorem fnd_insT (p : List UInt8 × V) (t : List (List UInt8 × V)) (k : List UInt8) : fnd (insT p t) k = bif eqs p.1 k then some p.2 else fnd t k := by
  unfold Ds.insT
  rw [fnd_append, fnd_filter (fun x => lts x p.1)]
  simp only [fnd]
  rw [fnd_filter (fun x => lts p.1 x)]
  cases e : eqs p.1 k
  · have hne : p.1 ≠ k := fun h => by rw [h, eqs_self] at e; cases e
    rcases lts_tri k p.1 with h | h | h
    · rw [h, lts_asymm h]
      simp only [cond_true, cond_false]
      cases fnd t k <;> rfl
    · exact absurd h.symm hne
    · rw [h, lts_asymm h]; rfl
  · have := eqs_iff.1 e; subst this
    rw [lts_irrefl]; rfl

theorem insT_len (p : List UInt8 × V) (t : List (List UInt8 × V)) : (insT p t).length ≤ t.length + 1 := by
  unfold Ds.insT
  rw [List.length_append, List.length_cons]
  have : (t.filter fun q => lts q.1 p.1).length + (t.filter fun q => lts p.1 q.1).length ≤ t.length := by
    induction t with
    | nil => simp
    | cons q t ih =>
      cases e1 : lts q.1 p.1 <;> cases e2 : lts p.1 q.1 <;> simp [List.filter_cons, e1, e2] <;> try omega
      rw [lts_asymm e1] at e2; cases e2
  omega
end put

/-! ## beginnings -/
theorem prefix_lts {p k : List UInt8} (h : p.isPrefixOf k = true) : lts k p = false := by
  obtain ⟨r, rfl⟩ := List.isPrefixOf_iff_prefix.1 h
  have := lts_app p r []
  rw [List.append_nil] at this
  rw [this, lts_nil]

end Ds
