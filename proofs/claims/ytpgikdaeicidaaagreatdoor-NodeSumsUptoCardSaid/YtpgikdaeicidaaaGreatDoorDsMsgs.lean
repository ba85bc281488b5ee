/- Messages, as in law05: what is valid, what is read and written, bytes. -/
import Derived.Test.YtpgikdaeicidaaaGreatDoorDsPure
import Derived.Test.YtpgikdaeicidaaaGreatDoorDvD
import Derived.Test.YtpgikdaeicidaaaGreatDoorDvE
import Derived.Laws.BitsLemmas
set_option linter.all false
namespace Ds
open Go Go.Dv
set_option maxRecDepth 100000
set_option linter.unusedVariables false
abbrev B := List UInt8
abbrev NN : Nat := 100000000000
def paths : List B := [[97, 47], [98, 47], [97, 47, 98, 47], [99, 47], [100, 47]]
def tails : List B := [[1], [2, 0, 0], [2, 0, 1], [2, 0, 2], [3, 120]]
def keys : List B := (paths.take 4).flatMap fun p => tails.map fun t => p ++ t
def values : List B := [[], [120], [121, 121], [49, 50, 51, 52, 53, 54, 55, 56, 57, 48], [0, 255]]
def ends : List (B × B) := paths.flatMap fun a => paths.filterMap fun b => bif (a.isPrefixOf b || b.isPrefixOf a) then none else some (a, b)
def zqj (s : B × B) : Bool := (eqs s.2 [] || lts s.1 s.2) && decide (s.1.length ≤ 8) && decide (s.2.length ≤ 8)
inductive Good : Z2 → Prop where
  | put (k v : B) (n : Int) : k ∈ keys → v ∈ values → 0 ≤ n → n < 8 → Good ((1 : Int), k, v, (([] : B), ([] : B)), ([] : B), ([] : B), n)
  | del (k : B) : k ∈ keys → Good ((2 : Int), k, ([] : B), (([] : B), ([] : B)), ([] : B), ([] : B), (0 : Int))
  | drop (s : B × B) : zqj s = true → Good ((3 : Int), ([] : B), ([] : B), (s.1, s.2), ([] : B), ([] : B), (0 : Int))
  | move (e : B × B) : e ∈ ends → Good ((4 : Int), ([] : B), ([] : B), (([] : B), ([] : B)), e.1, e.2, (0 : Int))
  | clone (e : B × B) : e ∈ ends → Good ((5 : Int), ([] : B), ([] : B), (([] : B), ([] : B)), e.1, e.2, (0 : Int))
  | stamp (s : B × B) (n : Int) : zqj s = true → 0 ≤ n → n < 8 → Good ((6 : Int), ([] : B), ([] : B), (s.1, s.2), ([] : B), ([] : B), n)
theorem zgb {n : Int} (h0 : 0 ≤ n) (h1 : n < 256) : ∃ p, ze0 NN n = some p ∧ p ∈ paths := by
  obtain ⟨p, h, hp⟩ := x1q (f := ze0 NN) (p := fun x => paths.contains x) (by decide +kernel) h0 h1
  exact ⟨p, h, by simpa using hp⟩
theorem xbs {n : Int} (h0 : 0 ≤ n) (h1 : n < 256) : ∃ p, zti NN n = some p ∧ p ∈ keys := by
  obtain ⟨p, h, hp⟩ := x1q (f := zti NN) (p := fun x => keys.contains x) (by decide +kernel) h0 h1
  exact ⟨p, h, by simpa using hp⟩
theorem x9l {n : Int} (h0 : 0 ≤ n) (h1 : n < 256) : ∃ p, zq4 NN n = some p ∧ p ∈ values := by
  obtain ⟨p, h, hp⟩ := x1q (f := zq4 NN) (p := fun x => values.contains x) (by decide +kernel) h0 h1
  exact ⟨p, h, by simpa using hp⟩
def x9f (v : Int × B × B × B × B × B × B × Int) : Z2 := (v.1, v.2.1, v.2.2.1, (v.2.2.2.1, v.2.2.2.2.1), v.2.2.2.2.2.1, v.2.2.2.2.2.2.1, v.2.2.2.2.2.2.2)
theorem xf0 {k a b lo hi : B} {x0 x1 x2 x3 x4 x5 : Int} {d0 : Int} {d1 d2 d3 d4 d5 d6 : B} {d7 : Int} (hk : k ∈ keys) (he : (a, b) ∈ ends) (hs : zqj (lo, hi) = true)
    (h2 : 0 ≤ x2 ∧ x2 < 256) (h5 : 0 ≤ x5 ∧ x5 < 256) (h0 : 0 ≤ x0 ∧ x0 < 256) :
    ∃ r, z3l NN k a b x0 x1 x2 x3 x4 x5 d0 d1 d2 d3 d4 d5 d6 d7 lo hi = some r ∧ Good (x9f r.2.1) ∧ (Int.tmod x0 6 = 3 → r.2.1.1 = (4 : Int)) := by
  obtain ⟨v, hv, hvm⟩ := x9l h2.1 h2.2
  have hn := xbb h5.1 (show (0 : Int) < 8 by decide)
  have hw : IntKind.wrap .i64 (Int.tmod x5 (8 : Int)) = Int.tmod x5 8 := w64 (by omega) (by omega)
  simp only [z3l, hv, hw]
  have no : ∀ {a : Int}, a ≠ 3 → eqi (Int.tmod x0 6) a = true → Int.tmod x0 6 = 3 → False := fun h1 h2 h3 => h1 ((w7.1 h2).symm.trans h3)
  cases q0 : eqi (Int.tmod x0 6) 0
  case true => exact ⟨_, rfl, .put k v _ hk hvm hn.1 hn.2, fun h => (no (by decide) q0 h).elim⟩
  cases q1 : eqi (Int.tmod x0 6) 1
  case true => exact ⟨_, rfl, .del k hk, fun h => (no (by decide) q1 h).elim⟩
  cases q2 : eqi (Int.tmod x0 6) 2
  case true => exact ⟨_, rfl, .drop (lo, hi) hs, fun h => (no (by decide) q2 h).elim⟩
  cases q3 : eqi (Int.tmod x0 6) 3
  case true => exact ⟨_, rfl, .move (a, b) he, fun _ => rfl⟩
  cases q4 : eqi (Int.tmod x0 6) 4
  case true => exact ⟨_, rfl, .clone (a, b) he, fun h => (no (by decide) q4 h).elim⟩
  exact ⟨_, rfl, .stamp (lo, hi) _ hs hn.1 hn.2, fun h => by rw [h] at q3; cases q3⟩
theorem xf1 {k lo hi : B} {x0 x1 x2 x3 x4 x5 : Int} {d0 : Int} {d1 d2 d3 d4 d5 d6 : B} {d7 : Int} (hk : k ∈ keys) (hs : zqj (lo, hi) = true)
    (h0 : 0 ≤ x0 ∧ x0 < 256) (h1 : 0 ≤ x1 ∧ x1 < 256) (h2 : 0 ≤ x2 ∧ x2 < 256) (h3 : 0 ≤ x3 ∧ x3 < 256) (h5 : 0 ≤ x5 ∧ x5 < 256) :
    ∃ r, z3m NN k x0 x1 x2 x3 x4 x5 d0 d1 d2 d3 d4 d5 d6 d7 lo hi = some r ∧ Good (x9f r.2.1) ∧ (Int.tmod x0 6 = 3 → r.2.1.1 = (4 : Int)) := by
  obtain ⟨p, hp, hpm⟩ := zgb h1.1 h1.2
  obtain ⟨q, hq, hqm⟩ := zgb h3.1 h3.2
  have hb : (paths.all fun p => paths.all fun q => okO (z4v NN p q) fun b => okO (z4v NN q p) fun c => 
      bif b || c then ends.contains (p, bif eqs p [100, 47] then [99, 47] else [100, 47]) else ends.contains (p, q)) = true := by decide +kernel
  obtain ⟨b, hb1, hb⟩ := y47 (List.all_eq_true.1 (List.all_eq_true.1 hb p hpm) q hqm)
  obtain ⟨c, hc1, hb⟩ := y47 hb
  have go : ∀ e : B, (p, e) ∈ ends → ∃ r, (match z3l NN k p e x0 x1 x2 x3 x4 x5 d0 d1 d2 d3 d4 d5 d6 d7 lo hi with
      | some r11 => (some ((), ((r11.2.1.1, (r11.2.1.2.1, (r11.2.1.2.2.1, (r11.2.1.2.2.2.1, (r11.2.1.2.2.2.2.1, (r11.2.1.2.2.2.2.2.1, (r11.2.1.2.2.2.2.2.2.1, r11.2.1.2.2.2.2.2.2.2))))))), ())))
      | none => none) = some r ∧ Good (x9f r.2.1) ∧ (Int.tmod x0 6 = 3 → r.2.1.1 = (4 : Int)) := by
    intro e he
    obtain ⟨r, h1, h2⟩ := xf0 (lo := lo) (hi := hi) (x1 := x1) (x3 := x3) (x4 := x4) (d0 := d0) (d1 := d1) (d2 := d2) (d3 := d3) (d4 := d4) (d5 := d5) (d6 := d6) (d7 := d7) hk he hs h2 h5 h0
    exact ⟨_, by rw [h1], h2⟩
  simp only [z3m, hp, hq, hb1, hc1]
  cases b <;> cases c <;> cases e : eqs p [100, 47] <;> simp only [e, Bool.or_true, Bool.or_false, Bool.true_or, cond_true, cond_false, List.contains_iff_mem] at hb ⊢ <;> exact go _ hb
theorem xa9 {x0 x1 x2 x3 x4 x5 : Int} (h0 : 0 ≤ x0 ∧ x0 < 256) (h1 : 0 ≤ x1 ∧ x1 < 256) (h2 : 0 ≤ x2 ∧ x2 < 256) (h3 : 0 ≤ x3 ∧ x3 < 256) (h4 : 0 ≤ x4 ∧ x4 < 256) (h5 : 0 ≤ x5 ∧ x5 < 256) :
    ∃ m, zhl NN ((x0, x1, x2, x3, x4, x5) : Int × Int × Int × Int × Int × Int) = some m ∧ Good m ∧ (Int.tmod x0 6 = 3 → m.1 = (4 : Int)) := by
  obtain ⟨k, hk, hkm⟩ := xbs h1.1 h1.2
  obtain ⟨l, hl, hlm⟩ := xbs h3.1 h3.2
  obtain ⟨p, hp, hpm⟩ := zgb h1.1 h1.2
  have hpre : (paths.all fun p => okO (z3w NN p) fun s => zqj s) = true := by decide +kernel
  have hone : (keys.all fun k => okO (zi4 NN k) fun s => zqj s) = true := by decide +kernel
  have hkey : (keys.all fun k => zqj (k, [])) = true := by decide +kernel
  have hmm : (keys.all fun k => keys.all fun l => bif eqs k l then true else zqj (bif lts k l || eqs k l then k else l, bif !(lts k l) then k else l)) = true := by decide +kernel
  obtain ⟨s, hs, hso⟩ := y47 (List.all_eq_true.1 hpre p hpm)
  obtain ⟨o, ho, hoo⟩ := y47 (List.all_eq_true.1 hone k hkm)
  have hke := List.all_eq_true.1 hkey k hkm
  have hml := List.all_eq_true.1 (List.all_eq_true.1 hmm k hkm) l hlm
  have go : ∀ lo hi : B, zqj (lo, hi) = true → ∃ m, (match z3m NN k x0 x1 x2 x3 x4 x5 (0 : Int) ([] : List UInt8) ([] : List UInt8) ([] : List UInt8) ([] : List UInt8) ([] : List UInt8) ([] : List UInt8) (0 : Int) lo hi with
      | some r17 => (some (r17.2.1.1, (r17.2.1.2.1, (r17.2.1.2.2.1, ((r17.2.1.2.2.2.1, r17.2.1.2.2.2.2.1), r17.2.1.2.2.2.2.2)))))
      | none => none) = some m ∧ Good m ∧ (Int.tmod x0 6 = 3 → m.1 = (4 : Int)) := by
    intro lo hi h
    obtain ⟨r, e1, e2⟩ := xf1 (x4 := x4) (d0 := 0) (d1 := []) (d2 := []) (d3 := []) (d4 := []) (d5 := []) (d6 := []) (d7 := 0) hkm h h0 h1 h2 h3 h5
    exact ⟨x9f r.2.1, by rw [e1]; rfl, e2⟩
  simp only [zhl, hk, hl, hp, hs, ho]
  cases eqi (Int.tmod x4 4) 0
  case true => exact go _ _ hso
  cases eqi (Int.tmod x4 16) 1
  case true => exact go _ _ hke
  cases eqi (Int.tmod x4 16) 5
  case true => exact go _ _ (by decide)
  cases e : eqs k l
  case true => exact go _ _ hoo
  rw [e] at hml
  exact go _ _ (by simpa [e] using hml)
theorem xa8 {x : V4} (hx : okT z4d x) : ∃ m, zhl NN x = some m ∧ Good m ∧ (Int.tmod x.1 6 = 3 → m.1 = (4 : Int)) :=
  xa9 (z6k hx.1) (z6k hx.2.1) (z6k hx.2.2.1) (z6k hx.2.2.2.1) (z6k hx.2.2.2.2.1) (z6k hx.2.2.2.2.2)
theorem xd8 {x : V4} (hx : okT z4d x) : ∃ m, zhl NN x = some m ∧ Good m := by
  obtain ⟨m, h1, h2, _⟩ := xa8 hx
  exact ⟨m, h1, h2⟩
abbrev Pr := Z0
def hasB (s : Z7) (k : B) : Bool := bif !(lts k s.1) then (bif eqs s.2 [] then true else lts k s.2) else false
theorem x9h (a b : B) : (lts a b || eqs a b) = !(lts b a) := by
  rcases lts_tri a b with h | rfl | h
  · rw [h, z4p h]; rfl
  · rw [z4l, z2d]; rfl
  · rw [h, z4p h, z6c (zfo h).symm]; rfl
def yuk (p : Pr) : Bool → List Pr → List Pr
  | d, [] => bif d then [] else [p]
  | d, q :: t => (bif !d && !(lts q.1 p.1) then [p] else []) ++ ((bif !(eqs q.1 p.1) then [q] else []) ++ yuk p (d || !(lts q.1 p.1)) t)
def zb9 (p : Pr) : Bool → List Pr → Bool
  | d, [] => d
  | d, q :: t => zb9 p (d || !(lts q.1 p.1)) t
def zms (p : Pr) : Bool → List Pr → List Pr
  | d, [] => []
  | d, q :: t => (bif !d && !(lts q.1 p.1) then [p] else []) ++ ((bif !(eqs q.1 p.1) then [q] else []) ++ zms p (d || !(lts q.1 p.1)) t)
theorem x46 (p : Pr) : ∀ (t : List Pr) (d : Bool), yuk p d t = zms p d t ++ (bif zb9 p d t then [] else [p])
  | [], d => by cases d <;> rfl
  | q :: t, d => by simp only [yuk, zms, zb9, x46 p t]; simp [List.append_assoc]
theorem yhg (p : Pr) : ∀ (t : List Pr), zb9 p true t = true
  | [] => rfl
  | q :: t => by simp only [zb9, Bool.true_or]; exact yhg p t
theorem yd0 (p : Pr) : ∀ (t : List Pr) (d : Bool), (zms p d t).length ≤ t.length + (bif d then 0 else bif zb9 p d t then 1 else 0)
  | [], d => by simp [zms]
  | q :: t, d => by
    have i1 := yd0 p t true
    have i2 := yd0 p t false
    have i3 := yhg p t
    simp only [cond_true, cond_false] at i1 i2
    simp only [zms, zb9, List.length_append, List.length_cons]
    cases d <;> cases lts q.1 p.1 <;> cases eqs q.1 p.1 <;> simp [i3] <;> omega
theorem x7s : ∀ a b : B, decide (cmpS a b < 0) = lts a b
  | [], [] => rfl
  | [], _ :: _ => rfl
  | _ :: _, [] => rfl
  | a :: x, b :: y => by
    have e : cmpS (a :: x) (b :: y) = if a < b then -1 else if b < a then 1 else cmpS x y := rfl
    rw [e, z8a, ← x7s x y]
    rcases u8_tri a b with h | rfl | h
    · simp [h]
    · simp [UInt8.lt_irrefl]
    · have h2 : ¬ a < b := fun g => UInt8.lt_irrefl _ (UInt8.lt_trans h g)
      have h3 : a ≠ b := fun g => by subst g; exact h2 h
      simp [h, h2, h3]
theorem x7t : ∀ a b : B, eqi (cmpS a b) 0 = eqs a b
  | [], [] => rfl
  | [], _ :: _ => rfl
  | _ :: _, [] => rfl
  | a :: x, b :: y => by
    have e : cmpS (a :: x) (b :: y) = if a < b then -1 else if b < a then 1 else cmpS x y := rfl
    have ih := x7t x y
    rw [e]
    simp only [eqi, eqs] at ih ⊢
    rcases u8_tri a b with h | rfl | h
    · have h3 : a ≠ b := fun g => by subst g; exact UInt8.lt_irrefl _ h
      simp [h, h3]
    · simp only [UInt8.lt_irrefl, if_false, ih]; simp
    · have h2 : ¬ a < b := fun g => UInt8.lt_irrefl _ (UInt8.lt_trans h g)
      have h3 : a ≠ b := fun g => by subst g; exact h2 h
      simp [h, h2, h3]
theorem half {i j : Nat} (h : i + j < 4000000000) : IntKind.wrap .i64 (Int.fdiv (IntKind.wrap .u64 (IntKind.wrap .i64 ((i : Int) + (j : Int)))) (2 ^ min (Int.toNat (1 : Int)) (IntKind.bits .u64))) = (((i + j) / 2 : Nat) : Int) := by
  have e1 : IntKind.wrap .i64 ((i : Int) + (j : Int)) = ((i + j : Nat) : Int) := by rw [w64 (by omega) (by omega)]; omega
  have e2 : IntKind.wrap .u64 ((i + j : Nat) : Int) = ((i + j : Nat) : Int) := by
    rw [IntKind.wrap_u64]; omega
  have e3 : (2 : Int) ^ min (Int.toNat (1 : Int)) (IntKind.bits .u64) = 2 := by decide
  rw [e1, e2, e3, w64]
  · rw [Int.fdiv_eq_ediv_of_nonneg _ (by omega)]; omega
  · rw [Int.fdiv_eq_ediv_of_nonneg _ (by omega)]; omega
  · rw [Int.fdiv_eq_ediv_of_nonneg _ (by omega)]; omega
def hitB (t : List Pr) (k : B) : Bool := match t[cnt t k]? with | some p => eqs p.1 k | none => false
def emptyB (s : B × B) : Bool := !(eqs s.2 []) && (lts s.2 s.1 || eqs s.2 s.1)
theorem xal (N : Nat) (s : Z7) : zdz N s = some (emptyB s) := by
  simp only [zdz, emptyB]; cases eqs s.2 [] <;> rfl
theorem y31 (N : Nat) (s : Z7) : z8h N s = some (emptyB s) := by
  simp only [z8h, emptyB]; cases eqs s.2 [] <;> rfl
theorem y63 {s : B × B} (h : emptyB s = true) (k : B) : hasB s k = false := by
  simp only [emptyB, Bool.and_eq_true, Bool.not_eq_true', Bool.or_eq_true] at h
  simp only [hasB, h.1]
  cases e : lts k s.1
  · simp only [Bool.not_false, cond_true, cond_false]
    rcases h.2 with h | h
    · cases e2 : lts k s.2
      · rfl
      · have := z0s e2 h; rw [e] at this; cases this
    · rw [z1d.1 h]; exact e
  · rfl
def loB (t : List Pr) (s : B × B) : Nat := bif emptyB s then 0 else cnt t s.1
def hiB (t : List Pr) (s : B × B) : Nat := bif emptyB s then 0 else bif eqs s.2 [] then t.length else cnt t s.2
theorem xaw {t : List Pr} (hs : Srt t) {a b : B} (h : lts b a = false) : cnt t a ≤ cnt t b := by
  unfold cnt
  have : t.filter (fun p => lts p.1 a) = (t.filter (fun p => lts p.1 b)).filter (fun p => lts p.1 a) := by
    rw [List.filter_filter]
    refine List.filter_congr fun p _ => ?_
    cases e : lts p.1 a
    · rfl
    · rw [yhs e h]; rfl
  rw [this]
  exact List.length_filter_le _ _
theorem xc5 {t : List Pr} (hs : Srt t) (s : B × B) : loB t s ≤ hiB t s ∧ hiB t s ≤ t.length := by
  simp only [loB, hiB]
  cases e : emptyB s
  · simp only [cond_false]
    cases e2 : eqs s.2 []
    · simp only [cond_false]
      refine ⟨xaw hs ?_, yxy _ _⟩
      simp only [emptyB, e2, Bool.not_false, Bool.true_and, Bool.or_eq_false_iff] at e
      exact e.1
    · exact ⟨yxy _ _, Nat.le_refl _⟩
  · exact ⟨Nat.le_refl _, Nat.zero_le _⟩
theorem x5k {t : List Pr} (hs : Srt t) (s : B × B) : t.take (loB t s) ++ t.drop (hiB t s) = t.filter (fun p => !(hasB s p.1)) := by
  simp only [loB, hiB]
  cases e : emptyB s
  · simp only [cond_false]
    rw [(hs.take_cnt s.1).1]
    have main : ∀ f : B → Bool, (∀ k, f k = true → lts k s.1 = false) → (∀ k, hasB s k = (!(lts k s.1) && !(f k))) → t.filter (fun p => lts p.1 s.1) ++ t.filter (fun p => f p.1) = t.filter (fun p => !(hasB s p.1)) := by
      intro f hf hh
      refine Srt.ext ?_ (hs.filter _) fun k => ?_
      · refine List.pairwise_append.2 ⟨hs.filter _, hs.filter _, fun a ha b hb => ?_⟩
        have ha := (List.mem_filter.1 ha).2
        have hb := hf _ (List.mem_filter.1 hb).2
        exact yhs ha hb
      · rw [yuw, znj (fun x => lts x s.1), znj f, znj (fun x => !(hasB s x)), hh]
        cases e1 : lts k s.1 <;> cases e2 : f k <;> simp only [Bool.not_true, Bool.not_false, Bool.and_self, Bool.and_true, Bool.and_false, cond_true, cond_false]
        · cases fnd t k <;> rfl
        · cases fnd t k <;> rfl
    cases e2 : eqs s.2 []
    · simp only [cond_false]
      rw [(hs.take_cnt s.2).2]
      simp only [emptyB, e2, Bool.not_false, Bool.true_and, Bool.or_eq_false_iff] at e
      refine main (fun k => !(lts k s.2)) (fun k hk => ?_) fun k => ?_
      · cases e3 : lts k s.1
        · rfl
        · have := yhs e3 e.1
          simp [this] at hk
      · simp only [hasB, e2, cond_false, Bool.not_not]
        cases lts k s.1 <;> rfl
    · simp only [cond_true, List.drop_length]
      have := main (fun _ => false) (fun k hk => by cases hk) fun k => by
        simp only [hasB, e2, cond_true]
        cases lts k s.1 <;> rfl
      have z : t.filter (fun p => (fun _ => false) p.1) = [] := List.filter_eq_nil_iff.2 fun p _ => by simp
      rw [z, List.append_nil] at this
      rw [List.append_nil]
      exact this
  · simp only [cond_true, List.take_zero, List.nil_append, List.drop_zero]
    refine (List.filter_eq_self.2 fun p _ => ?_).symm
    rw [y63 e]; rfl
theorem x8l {t : List Pr} (hs : Srt t) (s : B × B) : cut2 t (loB t s : Int) (hiB t s : Int) = t.filter (fun p => hasB s p.1) := by
  have hlh := xc5 hs s
  simp only [cut2, Int.toNat_natCast]
  simp only [loB, hiB] at hlh ⊢
  cases e : emptyB s
  · simp only [e, cond_false] at hlh ⊢
    rw [(hs.take_cnt s.1).2]
    cases e2 : eqs s.2 []
    · simp only [e2, cond_false] at hlh ⊢
      have hsr := hs.filter (fun p => !(lts p.1 s.1))
      have hc : cnt t s.2 - cnt t s.1 = cnt (t.filter (fun p => !(lts p.1 s.1))) s.2 := by
        have : cnt t s.2 = cnt (t.filter (fun p => lts p.1 s.1)) s.2 + cnt (t.filter (fun p => !(lts p.1 s.1))) s.2 := by
          unfold cnt
          rw [← List.length_append, ← List.filter_append, ← (hs.take_cnt s.1).1, ← (hs.take_cnt s.1).2, List.take_append_drop]
        have h2 : cnt (t.filter (fun p => lts p.1 s.1)) s.2 = cnt t s.1 := by
          unfold cnt
          rw [List.filter_filter]
          congr 1
          refine List.filter_congr fun p _ => ?_
          cases e3 : lts p.1 s.1
          · simp
          · simp only [emptyB, e2, Bool.not_false, Bool.true_and, Bool.or_eq_false_iff] at e
            rw [yhs e3 e.1]; rfl
        omega
      rw [hc, (hsr.take_cnt s.2).1, List.filter_filter]
      refine List.filter_congr fun p _ => ?_
      simp only [hasB, e2, cond_false]
      cases lts p.1 s.1 <;> cases lts p.1 s.2 <;> rfl
    · simp only [e2, cond_true] at hlh ⊢
      rw [List.take_of_length_le]
      · refine List.filter_congr fun p _ => ?_
        simp only [hasB, e2, cond_true]
        cases lts p.1 s.1 <;> rfl
      · rw [← (hs.take_cnt s.1).2, List.length_drop]; exact Nat.le_refl _
  · simp only [cond_true, Nat.sub_self, List.take_zero]
    refine (List.filter_eq_nil_iff.2 fun p _ => ?_).symm
    rw [y63 e]; simp
theorem xag {t : List Pr} (hs : Srt t) (p : Pr) : hitB t p.1 = true → t.drop (cnt t p.1 + 1) = t.filter (fun q => lts p.1 q.1) := by
  intro h
  have hd := (hs.take_cnt p.1).2
  unfold hitB at h
  split at h
  · rename_i q hq
    have hlt : cnt t p.1 < t.length := by
      rcases Nat.lt_or_ge (cnt t p.1) t.length with g | g
      · exact g
      · rw [List.getElem?_eq_none g] at hq; cases hq
    have hdq : t.drop (cnt t p.1) = q :: t.drop (cnt t p.1 + 1) := by
      rw [List.drop_eq_getElem_cons hlt]
      rw [List.getElem?_eq_getElem hlt] at hq
      cases hq; rfl
    have hk := z1d.1 h
    have hsd : Srt (t.drop (cnt t p.1)) := by rw [hd]; exact hs.filter _
    rw [hdq] at hsd
    obtain ⟨g1, _⟩ := List.pairwise_cons.1 hsd
    have e1 : t.filter (fun q => lts p.1 q.1) = (t.drop (cnt t p.1)).filter (fun q => lts p.1 q.1) := by
      rw [hd, List.filter_filter]
      refine List.filter_congr fun x _ => ?_
      cases e : lts p.1 x.1
      · rfl
      · rw [z4p e]; rfl
    rw [e1, hdq, List.filter_cons_of_neg (by rw [hk, z2d]; simp)]
    exact (List.filter_eq_self.2 fun x hx => by rw [← hk]; exact g1 x hx).symm
  · cases h
theorem xf2 {t : List Pr} (hs : Srt t) (k : B) : hitB t k = false → t.filter (fun q => !(lts q.1 k)) = t.filter (fun q => lts k q.1) := by
  intro h
  refine List.filter_congr fun x hx => ?_
  obtain ⟨i, hi, rfl⟩ := List.getElem_of_mem hx
  rcases lts_tri t[i].1 k with e | e | e
  · rw [e, z4p e]; rfl
  · exfalso
    have hg : t[i]? = some t[i] := List.getElem?_eq_getElem hi
    have h1 : ¬ i < cnt t k := fun g => by
      have := (hs.lt_cnt hg).2 g
      rw [e, z2d] at this; cases this
    have h2 : cnt t k ≤ i := by omega
    rcases Nat.lt_or_ge (cnt t k) i with g | g
    · have hg' : t[cnt t k]? = some (t[cnt t k]'(by omega)) := List.getElem?_eq_getElem (by omega)
      have hlt := (List.pairwise_iff_getElem.1 hs) (cnt t k) i (by omega) hi g
      rw [e] at hlt
      have := (hs.lt_cnt hg').1 hlt
      omega
    · have : cnt t k = i := by omega
      unfold hitB at h
      rw [this, hg] at h
      simp [e] at h
  · rw [e, z4p e]; rfl
theorem yui (p : Pr) : ∀ t : List Pr, yuk p true t = t.filter (fun q => !(eqs q.1 p.1))
  | [] => rfl
  | q :: t => by
    simp only [yuk, Bool.not_true, Bool.false_and, cond_false, List.nil_append, Bool.true_or, yui p t]
    cases e : eqs q.1 p.1
    · rw [List.filter_cons_of_pos (by simp [e])]; rfl
    · rw [List.filter_cons_of_neg (by simp [e])]; rfl
theorem yuj (p : Pr) : ∀ {t : List Pr}, Srt t → yuk p false t = insT p t
  | [], _ => rfl
  | q :: t, hs => by
    obtain ⟨h1, h2⟩ := List.pairwise_cons.1 hs
    have ih := yuj p h2
    have all : lts q.1 p.1 = false → t.filter (fun x => lts x.1 p.1) = [] ∧ t.filter (fun x => !(eqs x.1 p.1)) = t ∧ t.filter (fun x => lts p.1 x.1) = t := by
      intro e
      have hx : ∀ x ∈ t, lts p.1 x.1 = true := fun x hx => xej e (h1 x hx)
      exact ⟨List.filter_eq_nil_iff.2 fun x h => by simp [z4p (hx x h)], List.filter_eq_self.2 fun x h => by rw [z6c (zfo (hx x h)).symm]; rfl, List.filter_eq_self.2 fun x h => hx x h⟩
    simp only [yuk, Bool.not_false, Bool.true_and, Bool.false_or, insT]
    cases e : lts q.1 p.1
    · obtain ⟨a1, a2, a3⟩ := all e
      simp only [Bool.not_false, cond_true, yui]
      rw [List.filter_cons_of_neg (by simp [e]), a1, a2]
      rcases lts_tri p.1 q.1 with g | g | g
      · rw [z6c (zfo g).symm, List.filter_cons_of_pos (by simp [g]), a3]; rfl
      · rw [← g, z4l, List.filter_cons_of_neg (by rw [← g, z2d]; simp), a3]; rfl
      · rw [e] at g; cases g
    · have hne : eqs q.1 p.1 = false := z6c (zfo e)
      simp only [Bool.not_true, cond_false, hne, Bool.not_false, cond_true, List.nil_append]
      rw [List.filter_cons_of_pos (by simp [e]), List.filter_cons_of_neg (by rw [z4p e]; simp), ih]
      rfl
def uniT {V : Type} (a b : List (B × V)) : List (B × V) := b.foldl (fun t p => insT p t) a
theorem x9n {V : Type} {a : List (B × V)} (b : List (B × V)) (h : Srt a) : Srt (uniT a b) := by
  unfold uniT
  induction b generalizing a with
  | nil => exact h
  | cons p b ih => exact ih (h.insT p)
theorem x9o {V : Type} {a b : List (B × V)} (hb : Srt b) (k : B) : fnd (uniT a b) k = match fnd b k with | some v => some v | none => fnd a k := by
  unfold uniT
  induction b generalizing a with
  | nil => rfl
  | cons p b ih =>
    obtain ⟨h1, h2⟩ := List.pairwise_cons.1 hb
    rw [List.foldl_cons, ih h2, xaj]
    simp only [fnd]
    cases e : eqs p.1 k
    · rfl
    · have := z1d.1 e; subst this
      rw [zv4 fun x hx => (zfo (h1 x hx)).symm]; rfl
def mrg : Nat → List Pr → List Pr → List Pr
  | 0, _, _ => []
  | _ + 1, [], b => b
  | _ + 1, a, [] => a
  | n + 1, p :: a, q :: b => bif lts p.1 q.1 then p :: mrg n a (q :: b) else bif eqs p.1 q.1 then q :: mrg n a b else q :: mrg n (p :: a) b
theorem yuu : ∀ (n : Nat) {a b : List Pr}, Srt a → Srt b → a.length + b.length < n → (∀ k, fnd (mrg n a b) k = match fnd b k with | some v => some v | none => fnd a k) ∧ Srt (mrg n a b) ∧ ∀ k, (∀ p ∈ a, lts k p.1 = true) → (∀ p ∈ b, lts k p.1 = true) → ∀ p ∈ mrg n a b, lts k p.1 = true
  | 0, _, _, _, _, h => absurd h (Nat.not_lt_zero _)
  | n + 1, [], b, _, hb, _ => ⟨fun k => by show fnd b k = _; cases fnd b k <;> rfl, hb, fun k _ h => h⟩
  | n + 1, p :: a, [], ha, _, _ => ⟨fun k => rfl, ha, fun k h _ => h⟩
  | n + 1, p :: a, q :: b, ha, hb, hl => by
    obtain ⟨a1, a2⟩ := List.pairwise_cons.1 ha
    obtain ⟨b1, b2⟩ := List.pairwise_cons.1 hb
    simp only [List.length_cons] at hl
    simp only [mrg]
    cases e : lts p.1 q.1
    · cases e2 : eqs p.1 q.1
      · have hne : p.1 ≠ q.1 := fun h => by rw [h, z4l] at e2; cases e2
        have hqp : lts q.1 p.1 = true := by
          rcases lts_tri p.1 q.1 with g | g | g
          · rw [e] at g; cases g
          · exact absurd g hne
          · exact g
        obtain ⟨i1, i2, i3⟩ := yuu n (a := p :: a) (b := b) ha b2 (by simp; omega)
        simp only [cond_false]
        refine ⟨fun k => ?_, List.pairwise_cons.2 ⟨i3 q.1 (fun x hx => ?_) b1, i2⟩, fun k h1 h2 x hx => ?_⟩
        · have := i1 k
          simp only [fnd] at this ⊢
          rw [this]
          cases eqs q.1 k <;> rfl
        · rcases List.mem_cons.1 hx with rfl | hx
          · exact hqp
          · exact z0s hqp (a1 x hx)
        · rcases List.mem_cons.1 hx with rfl | hx
          · exact h2 x (by simp)
          · exact i3 k h1 (fun y hy => h2 y (by simp [hy])) x hx
      · have hk := z1d.1 e2
        obtain ⟨i1, i2, i3⟩ := yuu n (a := a) (b := b) a2 b2 (by omega)
        simp only [cond_false, cond_true]
        refine ⟨fun k => ?_, List.pairwise_cons.2 ⟨i3 q.1 (fun x hx => hk ▸ a1 x hx) b1, i2⟩, fun k h1 h2 x hx => ?_⟩
        · have := i1 k
          simp only [fnd]
          rw [this, hk]
          cases eqs q.1 k <;> rfl
        · rcases List.mem_cons.1 hx with rfl | hx
          · exact h2 x (by simp)
          · exact i3 k (fun y hy => h1 y (by simp [hy])) (fun y hy => h2 y (by simp [hy])) x hx
    · obtain ⟨i1, i2, i3⟩ := yuu n (a := a) (b := q :: b) a2 hb (by simp; omega)
      simp only [cond_true]
      refine ⟨fun k => ?_, List.pairwise_cons.2 ⟨i3 p.1 a1 (fun x hx => ?_), i2⟩, fun k h1 h2 x hx => ?_⟩
      · have := i1 k
        simp only [fnd] at this ⊢
        rw [this]
        cases e3 : eqs p.1 k
        · rfl
        · have := z1d.1 e3; subst this
          rw [z6c (zfo e).symm, zv4 fun x hx => (zfo (z0s e (b1 x hx))).symm]; rfl
      · rcases List.mem_cons.1 hx with rfl | hx
        · exact e
        · exact z0s e (b1 x hx)
      · rcases List.mem_cons.1 hx with rfl | hx
        · exact h1 x (by simp)
        · exact i3 k (fun y hy => h1 y (by simp [hy])) h2 x hx
theorem xao {α : Type} (x : α) (xs : List α) : cut2 (x :: xs) (1 : Int) ((x :: xs).length : Int) = xs := by
  simp [cut2]
abbrev Mg := Z2
abbrev Sp := Z7
theorem x1m (k : B) (n : Nat) : cut2 k (0 : Int) (n : Int) = k.take n := by simp [cut2]
theorem xap (k : B) (n : Nat) : cut2 k (n : Int) (k.length : Int) = k.drop n := by
  simp only [cut2, Int.toNat_natCast]
  exact List.take_of_length_le (by simp)
theorem x47 (p k : B) : (decide (p.length ≤ k.length) && eqs (k.take p.length) p) = p.isPrefixOf k := by
  rw [Bool.eq_iff_iff]
  simp only [Bool.and_eq_true, decide_eq_true_eq, z1d, List.isPrefixOf_iff_prefix]
  constructor
  · rintro ⟨_, h⟩; exact h ▸ List.take_prefix _ _
  · intro h; exact ⟨h.length_le, (List.prefix_iff_eq_take.1 h).symm⟩
theorem x0w (N : Nat) (k p : B) : w8 N k p = some (p.isPrefixOf k) := by
  simp only [w8, ← x47]
  by_cases h : p.length ≤ k.length
  · rw [z9u (by simp; omega), gd_t (by simp; omega), x1m]
    simp [h]
  · rw [z5e (by simp; omega)]
    simp [h]
theorem x0x (N : Nat) (k p : B) : G4 N k p = some (bif p.isPrefixOf k then (k.drop p.length, true) else (k, false)) := by
  simp only [G4, z2n, x0w]
  cases e : p.isPrefixOf k
  · rfl
  · have h : p.length ≤ k.length := (List.isPrefixOf_iff_prefix.1 e).length_le
    simp only [Bool.not_true, cond_false]
    rw [gd_t (by simp; omega), xap]
    rfl
structure Ok (n L : Nat) (t : List Pr) : Prop where
  srt : Srt t
  len : t.length ≤ n
  key : ∀ p ∈ t, p.1.length ≤ L
theorem Ok.mono {n n' L L' : Nat} {t : List Pr} (h : Ok n L t) (hn : n ≤ n') (hL : L ≤ L') : Ok n' L' t := ⟨h.srt, Nat.le_trans h.len hn, fun p hp => Nat.le_trans (h.key p hp) hL⟩
theorem Ok.filter {n L : Nat} {t : List Pr} (h : Ok n L t) (f : Pr → Bool) : Ok n L (t.filter f) :=
  ⟨h.srt.filter f, Nat.le_trans (List.length_filter_le _ _) h.len, fun p hp => h.key p (List.mem_filter.1 hp).1⟩
theorem insT_mem {V : Type} {p x : B × V} {t : List (B × V)} (h : x ∈ insT p t) : x = p ∨ x ∈ t := by
  unfold insT at h
  rcases List.mem_append.1 h with h | h
  · exact .inr (List.mem_filter.1 h).1
  · rcases List.mem_cons.1 h with h | h
    · exact .inl h
    · exact .inr (List.mem_filter.1 h).1
theorem Ok.insT {n L : Nat} {t : List Pr} (h : Ok n L t) {p : Pr} (hp : p.1.length ≤ L) : Ok (n + 1) L (insT p t) :=
  ⟨h.srt.insT p, Nat.le_trans (x4l p t) (by have := h.len; omega), fun q hq => by
    rcases insT_mem hq with rfl | hq
    · exact hp
    · exact h.key q hq⟩
theorem Ok.uniT {n m L : Nat} {t : List Pr} (h : Ok n L t) : ∀ {l : List Pr}, l.length ≤ m → (∀ p ∈ l, p.1.length ≤ L) → Ok (n + m) L (uniT t l) := by
  intro l hl hk
  unfold Ds.uniT
  induction l generalizing t n m with
  | nil => exact h.mono (by omega) (Nat.le_refl _)
  | cons p l ih =>
    simp only [List.length_cons] at hl
    rw [List.foldl_cons]
    exact (ih (n := n + 1) (m := m - 1) (h.insT (hk p (by simp))) (by omega) (fun q hq => hk q (by simp [hq]))).mono (by omega) (Nat.le_refl _)
theorem xd2 {V : Type} (p q : B) (t : List (B × V)) : (mvd p q t).length ≤ t.length := by
  unfold mvd; rw [List.length_map]; exact List.length_filter_le _ _
theorem xd3 {p q : B} {L : Nat} {t : List Pr} (h : ∀ x ∈ t, x.1.length ≤ L) : ∀ x ∈ mvd p q t, x.1.length ≤ q.length + L := by
  intro x hx
  unfold mvd at hx
  obtain ⟨y, hy, rfl⟩ := List.mem_map.1 hx
  have := h y (List.mem_filter.1 hy).1
  simp only [List.length_append, List.length_drop]; omega
theorem Ok.mvd {n L : Nat} {t : List Pr} (h : Ok n L t) (p q : B) : Ok n (q.length + L) (mvd p q t) :=
  ⟨h.srt.mvd p q, Nat.le_trans (xd2 p q t) h.len, xd3 h.key⟩
def stp (s : B × B) (n : Int) (p : Pr) : Pr := bif hasB s p.1 then (p.1, p.2.1, n) else p
theorem xew (N : Nat) (s : Z7) (k : B) : zv1 N s k = some (hasB s k) := by
  simp only [zv1, hasB]
  cases lts k s.1 <;> cases eqs s.2 [] <;> rfl
abbrev yqn (k v : B) (n : Int) : Mg := (1, k, v, ([], []), [], [], n)
abbrev yhu (k : B) : Mg := (2, k, [], ([], []), [], [], 0)
abbrev yux (s : B × B) : Mg := (3, [], [], s, [], [], 0)
abbrev mv (k : Int) (e : B × B) : Mg := (k, [], [], ([], []), e.1, e.2, 0)
abbrev yi2 (s : B × B) (n : Int) : Mg := (6, [], [], s, [], [], n)
section one
variable {n L : Nat} {t : List Pr} (h : Ok n L t) (hn : n + 4 < NN) (hL : L < 1000000)
include h hn
include hL
end one
theorem x9c {α : Type} (xs : List α) (i : Int) (d : α) (h0 : 0 ≤ i) (h1 : i < (xs.length : Int)) : ∃ (h : i.toNat < xs.length), rdL xs i d = xs[i.toNat]'h := by
  have h : i.toNat < xs.length := by omega
  refine ⟨h, ?_⟩
  simp [rdL, List.getD, h]
theorem xd9 {xs : List (V4)} (hx : okT (.list z4d) xs) {k : Int} (hk : 0 ≤ k ∧ k ≤ 24) :
    ∃ buf, zvo NN xs k = some buf ∧ (buf.length : Int) ≤ k ∧ ∀ m ∈ buf, Good m := by
  have hmem : ∀ i : Int, 0 ≤ i → i < (xs.length : Int) → okT z4d (rdL (α := V4) xs i ymu) := by
    intro i h0 h1
    obtain ⟨h, e⟩ := x9c xs i _ h0 h1
    rw [e]
    exact hx.2 i.toNat _ (List.getElem?_eq_getElem h)
  have hl : (xs.length : Int) ≤ 140737488351232 := by
    have : xs.length * 6 ≤ 0x7ffffffff000 := hx.1
    omega
  have loop := yvn (A := ((((List (V4)) × (Int × (Unit × Int))) × ((List (Z2)) × Unit)))) (R := (Unit × ((List (Z2)) × Unit)))
    (f := fun rec v => zd9 NN (fun b0 b1 b2 b3 => rec ((b0, (b1, ((), b2))), (b3, ()))) v.1.1 v.1.2.1 v.1.2.2.2 v.2.1)
    (fun v => v.1.1 = xs ∧ v.1.2.1 = k ∧ 0 ≤ v.1.2.2.2 ∧ v.1.2.2.2 ≤ k ∧ (v.2.1.length : Int) = v.1.2.2.2 ∧ ∀ m ∈ v.2.1, Good m)
    (fun r => (r.2.1.length : Int) ≤ k ∧ ∀ m ∈ r.2.1, Good m) (fun v => (k - v.1.2.2.2).toNat)
    (by
      rintro rec ⟨⟨b0, b1, u, i⟩, out, _⟩ ⟨rfl, rfl, h3, h4, h5, h6⟩ ih
      simp only at h3 h4 h5 h6 hl hk hmem
      simp only [zd9]
      cases e1 : decide (i < (b0.length : Int))
      · exact ⟨_, rfl, by simp only; omega, h6⟩
      cases e2 : decide (i < b1)
      · exact ⟨_, rfl, by simp only; omega, h6⟩
      have e1 := of_decide_eq_true e1
      have e2 := of_decide_eq_true e2
      obtain ⟨m, hm, gm⟩ := xd8 (hmem i h3 e1)
      simp only [cond_true]
      rw [gd_t (z6t h3 e1), hm]
      simp only
      rw [gd_t (x25 (by simp only [maxB]; omega) (by simp only [maxB]; omega)), w64 (by omega) (by omega)]
      exact ih ((b0, b1, (), i + 1), out ++ [m], ()) ⟨rfl, rfl, by simp only; omega, by simp only; omega, by simp; omega, fun m' hm' => by
        rcases List.mem_append.1 hm' with h | h
        · exact h6 _ h
        · simp at h; subst h; exact gm⟩ (by simp only; omega))
    NN ((xs, k, (), 0), [], ()) ⟨rfl, rfl, Int.le_refl _, hk.1, rfl, fun m h => by simp at h⟩ (by simp only [NN]; omega)
  obtain ⟨r, h1, h2⟩ := loop
  exact ⟨r.2.1, by simp only [zvo, zqk, h1], h2⟩
abbrev Big (n : Nat) : Prop := n < 1000000000
theorem xct (N : Nat) (s : Sp) (k : B) : y6y N s k = some (hasB s k) := by
  simp only [y6y, hasB]
  cases lts k s.1 <;> cases eqs s.2 [] <;> rfl
theorem x5i (N : Nat) (k p : B) : z4v N k p = some (p.isPrefixOf k) := by
  simp only [z4v, ← x47]
  by_cases h : p.length ≤ k.length
  · rw [z9u (by simp; omega), gd_t (by simp; omega), x1m]
    simp [h]
  · rw [z5e (by simp; omega)]
    simp [h]
def lessB (a b : B) : Bool := !(eqs a []) && (eqs b [] || lts a b)
theorem x7d (N : Nat) (a b : B) : zn8 N a b = some (lessB a b) := by
  simp only [zn8, lessB]
  cases eqs a [] <;> cases eqs b [] <;> rfl
def x9g (a b : B) : B := bif !(lts a b) then a else b
def x1x (a b : Sp) : Sp := (x9g a.1 b.1, bif lessB b.2 a.2 then b.2 else a.2)
def yny (a b : Sp) : Sp := bif emptyB (x1x a b) then ([97], [97]) else x1x a b
def belowB (k h : B) : Bool := eqs h [] || lts k h
theorem y83 (s : Sp) (k : B) : hasB s k = (!(lts k s.1) && belowB k s.2) := by
  simp only [hasB, belowB]
  cases lts k s.1 <;> cases eqs s.2 [] <;> rfl
theorem xd6 (a b k : B) : lts k (x9g a b) = (lts k a || lts k b) := by
  unfold x9g
  cases e : lts a b
  · simp only [Bool.not_false, cond_true]
    cases e2 : lts k b
    · simp
    · rw [yhs e2 e]; rfl
  · simp only [Bool.not_true, cond_false]
    cases e2 : lts k a
    · rfl
    · rw [z0s e2 e]; rfl
theorem x3h {a b k : B} (h : lessB a b = true) (hk : belowB k a = true) : belowB k b = true := by
  simp only [lessB, belowB, Bool.and_eq_true, Bool.or_eq_true, Bool.not_eq_true'] at h hk ⊢
  obtain ⟨h1, h2⟩ := h
  rcases hk with hk | hk
  · rw [h1] at hk; cases hk
  · rcases h2 with h2 | h2
    · exact .inl h2
    · exact .inr (z0s hk h2)
theorem x0r {a b k : B} (h : lessB a b = false) (hk : belowB k b = true) : belowB k a = true := by
  simp only [lessB, belowB, Bool.or_eq_true, Bool.and_eq_false_iff, Bool.or_eq_false_iff, Bool.not_eq_false'] at h hk ⊢
  rcases h with h | ⟨h1, h2⟩
  · exact .inl h
  · rcases hk with hk | hk
    · rw [h1] at hk; cases hk
    · exact .inr (yhs hk h2)
theorem x8j (a b k : B) : belowB k (bif lessB b a then b else a) = (belowB k a && belowB k b) := by
  cases e : lessB b a
  · simp only [cond_false]
    cases e2 : belowB k a
    · rfl
    · rw [x0r e e2]; rfl
  · simp only [cond_true]
    cases e2 : belowB k b
    · simp
    · rw [x3h e e2]; rfl
theorem x4h (a b : Sp) (k : B) : hasB (yny a b) k = (hasB a k && hasB b k) := by
  have h : hasB (x1x a b) k = (hasB a k && hasB b k) := by
    rw [y83, y83, y83]
    simp only [x1x, xd6, x8j]
    cases lts k a.1 <;> cases lts k b.1 <;> cases belowB k a.2 <;> cases belowB k b.2 <;> rfl
  unfold yny
  cases e : emptyB (x1x a b)
  · exact h
  · rw [← h, y63 e, cond_true, y63 (by decide)]
theorem x4k : ∀ (j k : B), lts j (k ++ [0]) = (lts j k || eqs j k)
  | [], [] => rfl
  | [], b :: k => by simp only [List.cons_append]; rfl
  | a :: j, [] => by
    simp only [List.nil_append, z8a, zz0, Bool.and_false, Bool.or_false]
    have : decide (a < (0 : UInt8)) = false := by
      simp only [decide_eq_false_iff_not, UInt8.lt_iff_toNat_lt]; simp
    rw [this, z6c (by simp)]; rfl
  | a :: j, b :: k => by
    simp only [List.cons_append, z8a, x4k j k]
    have e : eqs (a :: j) (b :: k) = (a == b && eqs j k) := rfl
    rw [e]
    cases decide (a < b) <;> cases (a == b) <;> cases lts j k <;> cases eqs j k <;> rfl
theorem xak (a b : B) : eqs a b = eqs b a := by
  cases h : eqs b a
  · cases h2 : eqs a b
    · rfl
    · rw [z1d.1 h2, z4l] at h; cases h
  · rw [z1d.1 h, z4l]
theorem xcy (k j : B) : hasB (k, k ++ [0]) j = eqs k j := by
  rw [y83]
  have e : eqs (k ++ [0]) [] = false := z6c (by simp)
  have s : eqs k j = eqs j k := xak k j
  simp only [belowB, e, Bool.false_or, x4k, s]
  cases h : eqs j k
  · cases lts j k <;> rfl
  · have := z1d.1 h; subst this
    rw [z2d]; rfl
section said
variable {m : Mg} (hm : Good m)
include hm
end said
section keys
variable {t : List Pr}
end keys
section laws
variable {t : List Pr} (h : Ok 12 7 t)
include h
end laws
theorem ylo (a b : Bool) : (bif a then some b else some false) = some (a && b) := by cases a <;> rfl
def inR (n lo hi : Int) : Bool := decide (lo ≤ n) && decide (n ≤ hi)
theorem xbh (N : Nat) (n lo hi : Int) : zo1 N n lo hi = some (inR n lo hi) := by simp only [zo1, ylo]; rfl
def nol (s : B) : Bool := eqs s []
theorem yus (s : B) : eqs s [] = nol s := rfl
def spanV (s : Sp) : Bool := !(emptyB s) && (decide ((s.1.length : Int) ≤ 65535) && decide ((s.2.length : Int) ≤ 65535))
theorem x3y (N : Nat) (s : Sp) : zn4 N s = some (spanV s) := by
  simp only [zn4, y31, ylo, spanV]
def yhv (a b : B) : Bool := inR a.length 1 200 && (inR b.length 1 200 && (!(b.isPrefixOf a) && !(a.isPrefixOf b)))
def vldB (m : Mg) : Bool :=
  bif eqi m.1 1 then (inR m.2.1.length 1 65535 && (decide ((m.2.2.1.length : Int) ≤ 64) && inR m.2.2.2.2.2.2 0 1000000000)) && (nol m.2.2.2.1.1 && (nol m.2.2.2.1.2 && (nol m.2.2.2.2.1 && nol m.2.2.2.2.2.1))) else
  bif eqi m.1 2 then inR m.2.1.length 1 65535 && (nol m.2.2.1 && (nol m.2.2.2.1.1 && (nol m.2.2.2.1.2 && (nol m.2.2.2.2.1 && (nol m.2.2.2.2.2.1 && eqi m.2.2.2.2.2.2 0))))) else
  bif eqi m.1 3 then spanV m.2.2.2.1 && (nol m.2.1 && (nol m.2.2.1 && (nol m.2.2.2.2.1 && (nol m.2.2.2.2.2.1 && eqi m.2.2.2.2.2.2 0)))) else
  bif eqi m.1 4 || eqi m.1 5 then yhv m.2.2.2.2.1 m.2.2.2.2.2.1 && (nol m.2.1 && (nol m.2.2.1 && (nol m.2.2.2.1.1 && (nol m.2.2.2.1.2 && eqi m.2.2.2.2.2.2 0)))) else
  bif eqi m.1 6 then (spanV m.2.2.2.1 && inR m.2.2.2.2.2.2 0 1000000000) && (nol m.2.1 && (nol m.2.2.1 && (nol m.2.2.2.2.1 && nol m.2.2.2.2.2.1))) else false
theorem x8b (m : Mg) (st mvs : Bool) : zaj NN st m.1 mvs m.1 m.2.1 m.2.2.1 m.2.2.2.1.1 m.2.2.2.1.2 m.2.2.2.2.1 m.2.2.2.2.2.1 m.2.2.2.2.2.2 =
    some (bif mvs then .inl (yhv m.2.2.2.2.1 m.2.2.2.2.2.1 && (nol m.2.1 && (nol m.2.2.1 && (nol m.2.2.2.1.1 && (nol m.2.2.2.1.2 && eqi m.2.2.2.2.2.2 0)))), ()) else bif eqi m.1 6 then .inl ((spanV m.2.2.2.1 && st) && (nol m.2.1 && (nol m.2.2.1 && (nol m.2.2.2.2.1 && nol m.2.2.2.2.2.1))), ()) else .inr ((), ())) := by
  have e : (m.2.2.2.1.1, m.2.2.2.1.2) = m.2.2.2.1 := rfl
  simp only [zaj, x5i, xbh, e, x3y, yus, zje, z4l, Bool.true_and, Bool.and_true, yhv]
  cases mvs
  · simp only [cond_false]
    cases eqi m.1 6
    · rfl
    · simp only [cond_true]
      cases spanV m.2.2.2.1 <;> cases st <;> rfl
  · simp only [cond_true]
    cases m.2.2.2.2.2.1.isPrefixOf m.2.2.2.2.1 <;> cases m.2.2.2.2.1.isPrefixOf m.2.2.2.2.2.1 <;> cases inR m.2.2.2.2.1.length 1 200 <;> cases inR m.2.2.2.2.2.1.length 1 200 <;> rfl
theorem yyp (m : Mg) : zi8 NN m = some (vldB m) := by
  simp only [zi8, vldB, xbh, x3y, x8b]
  cases h1 : eqi m.1 1
  case true =>
    simp only [cond_true, ylo, zje, z4l, yus, Bool.true_and, Bool.and_true, Bool.and_assoc]
  case false =>
  cases h2 : eqi m.1 2
  case true =>
    simp only [cond_true, cond_false, ylo, zje, z4l, yus, Bool.true_and, Bool.and_true]
  case false =>
  cases h3 : eqi m.1 3
  case true =>
    simp only [cond_true, cond_false, ylo, zje, z4l, yus, Bool.true_and, Bool.and_true]
  case false =>
  cases h4 : eqi m.1 4
  case true => simp only [cond_true, cond_false, Bool.true_or]
  case false =>
  cases h5 : eqi m.1 5
  case true => simp only [cond_true, cond_false, Bool.or_true]
  case false =>
  cases h6 : eqi m.1 6
  · simp only [cond_false, Bool.or_self]
  · simp only [cond_true, cond_false, Bool.or_self]
def byt (n : Int) (i : Nat) : Int := IntKind.wrap .u8 (Int.fdiv n (2 ^ (8 * i)))
def bytes (n : Int) : Nat → List Int
  | 0 => []
  | w + 1 => byt n w :: bytes n w
def ymv (s : B) : List Int := bytes (s.length : Int) 2 ++ K7 s
def ze2 (m : Mg) : List Int :=
  bif eqi m.1 1 then ymv m.2.1 ++ ymv m.2.2.1 ++ bytes m.2.2.2.2.2.2 4 else
  bif eqi m.1 2 then ymv m.2.1 else
  bif eqi m.1 3 then ymv m.2.2.2.1.1 ++ ymv m.2.2.2.1.2 else
  bif eqi m.1 6 then ymv m.2.2.2.1.1 ++ ymv m.2.2.2.1.2 ++ bytes m.2.2.2.2.2.2 4 else
  ymv m.2.2.2.2.1 ++ ymv m.2.2.2.2.2.1
theorem zcg {n lo hi : Int} : inR n lo hi = true ↔ lo ≤ n ∧ n ≤ hi := by simp [inR]
theorem vld_cases {m : Mg} (h : vldB m = true) :
    (∃ k v n, m = yqn k v n ∧ 1 ≤ k.length ∧ k.length ≤ 65535 ∧ v.length ≤ 64 ∧ 0 ≤ n ∧ n ≤ 1000000000) ∨
    (∃ k, m = yhu k ∧ 1 ≤ k.length ∧ k.length ≤ 65535) ∨
    (∃ s, m = yux s ∧ spanV s = true) ∨
    (∃ k e, m = mv k e ∧ (k = 4 ∨ k = 5) ∧ yhv e.1 e.2 = true) ∨
    (∃ s n, m = yi2 s n ∧ spanV s = true ∧ 0 ≤ n ∧ n ≤ 1000000000) := by
  obtain ⟨k, key, val, ⟨lo, hi⟩, fr, to, n⟩ := m
  simp only [vldB] at h
  have nl : ∀ {s : B}, nol s = true → s = [] := fun h => z1d.1 h
  cases h1 : eqi k 1
  case true =>
    rw [h1] at h
    simp only [cond_true, Bool.and_eq_true, zcg, decide_eq_true_eq] at h
    obtain ⟨⟨a, b, c⟩, d1, d2, d3, d4⟩ := h
    have e := w7.1 h1
    rw [e, nl d1, nl d2, nl d3, nl d4]
    exact .inl ⟨key, val, n, rfl, by omega, by omega, by omega, c.1, c.2⟩
  case false =>
  rw [h1] at h
  cases h2 : eqi k 2
  case true =>
    rw [h2] at h
    simp only [cond_true, cond_false, Bool.and_eq_true, zcg] at h
    obtain ⟨a, d0, d1, d2, d3, d4, d5⟩ := h
    rw [w7.1 h2, nl d0, nl d1, nl d2, nl d3, nl d4, w7.1 d5]
    exact .inr (.inl ⟨key, rfl, by omega, by omega⟩)
  case false =>
  rw [h2] at h
  cases h3 : eqi k 3
  case true =>
    rw [h3] at h
    simp only [cond_true, cond_false, Bool.and_eq_true] at h
    obtain ⟨a, d0, d1, d3, d4, d5⟩ := h
    rw [w7.1 h3, nl d0, nl d1, nl d3, nl d4, w7.1 d5]
    exact .inr (.inr (.inl ⟨(lo, hi), rfl, a⟩))
  case false =>
  rw [h3] at h
  cases h4 : (eqi k 4 || eqi k 5)
  case true =>
    rw [h4] at h
    simp only [cond_true, cond_false, Bool.and_eq_true] at h
    obtain ⟨a, d0, d1, d2, d3, d5⟩ := h
    rw [nl d0, nl d1, nl d2, nl d3, w7.1 d5]
    refine .inr (.inr (.inr (.inl ⟨k, (fr, to), rfl, ?_, a⟩)))
    simpa [w7] using h4
  case false =>
  rw [h4] at h
  cases h6 : eqi k 6
  case true =>
    rw [h6] at h
    simp only [cond_true, cond_false, Bool.and_eq_true, zcg] at h
    obtain ⟨⟨a, c⟩, d0, d1, d3, d4⟩ := h
    rw [w7.1 h6, nl d0, nl d1, nl d3, nl d4]
    exact .inr (.inr (.inr (.inr ⟨(lo, hi), n, rfl, a, c.1, c.2⟩)))
  case false => rw [h6] at h; cases h
theorem zwi {a b : B} (h : yhv a b = true) : (1 ≤ a.length ∧ a.length ≤ 200) ∧ 1 ≤ b.length ∧ b.length ≤ 200 := by
  simp only [yhv, Bool.and_eq_true, zcg] at h; omega
theorem x4q {m : Mg} (hm : Good m) : vldB m = true := by
  cases hm with
  | put k v n hk hv h0 h1 =>
    have h : (keys.all fun k => values.all fun v => inR k.length 1 65535 && decide ((v.length : Int) ≤ 64)) = true := by decide +kernel
    have := List.all_eq_true.1 (List.all_eq_true.1 h k hk) v hv
    simp only [Bool.and_eq_true] at this
    have hn : inR n 0 1000000000 = true := zcg.2 ⟨h0, by omega⟩
    show ((inR k.length 1 65535 && (decide ((v.length : Int) ≤ 64) && inR n 0 1000000000)) && _) = true
    rw [this.1, this.2, hn]; rfl
  | del k hk =>
    have h : (keys.all fun k => vldB (yhu k)) = true := by decide +kernel
    exact List.all_eq_true.1 h k hk
  | drop s hs =>
    simp only [zqj, Bool.and_eq_true, Bool.or_eq_true, decide_eq_true_eq] at hs
    have i5 : emptyB s = false := by
      simp only [emptyB]
      rcases hs.1.1 with h | h
      · rw [h]; rfl
      · rw [z4p h, z6c (zfo h).symm]; simp
    have hv : spanV s = true := by
      simp only [spanV, i5, Bool.not_false, Bool.true_and, Bool.and_eq_true, decide_eq_true_eq]; omega
    show (spanV s && _) = true
    rw [hv]; rfl
  | move e he =>
    have h : (ends.all fun e => vldB (mv 4 e)) = true := by decide +kernel
    exact List.all_eq_true.1 h e he
  | clone e he =>
    have h : (ends.all fun e => vldB (mv 5 e)) = true := by decide +kernel
    exact List.all_eq_true.1 h e he
  | stamp s n hs h0 h1 =>
    simp only [zqj, Bool.and_eq_true, Bool.or_eq_true, decide_eq_true_eq] at hs
    have i5 : emptyB s = false := by
      simp only [emptyB]
      rcases hs.1.1 with h | h
      · rw [h]; rfl
      · rw [z4p h, z6c (zfo h).symm]; simp
    have hv : spanV s = true := by
      simp only [spanV, i5, Bool.not_false, Bool.true_and, Bool.and_eq_true, decide_eq_true_eq]; omega
    have hn : inR n 0 1000000000 = true := zcg.2 ⟨h0, by omega⟩
    show ((spanV s && inR n 0 1000000000) && _) = true
    rw [hv, hn]; rfl
def Byts (l : List Int) : Prop := ∀ x ∈ l, 0 ≤ x ∧ x < 256
theorem Byts.drop {l : List Int} (h : Byts l) (n : Nat) : Byts (l.drop n) := fun x hx => h x (List.mem_of_mem_drop hx)
theorem UI (s : B) : z39 (K7 s) = s := by
  unfold K7 z39
  rw [List.map_map]
  conv => rhs; rw [← List.map_id s]
  refine List.map_congr_left fun x hx => ?_
  simp only [Function.comp, id, Int.toNat_natCast]
  exact UInt8.ofNat_toNat
end Ds
