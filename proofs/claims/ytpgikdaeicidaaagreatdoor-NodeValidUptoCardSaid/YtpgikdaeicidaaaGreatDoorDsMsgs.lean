/- Messages, as in law05: what is valid, what is read and written, bytes. -/
import Derived.Test.YtpgikdaeicidaaaGreatDoorDsPure
import Derived.Test.YtpgikdaeicidaaaGreatDoorDvD
import Derived.Test.YtpgikdaeicidaaaGreatDoorDvE
import Derived.Laws.BitsLemmas
set_option linter.all false
namespace Ds
open Go Go.Dv
set_option maxRecDepth 100000
set_option linter.unusedVariables false

abbrev B := List UInt8
abbrev NN : Nat := 100000000000
def paths : List B := [[97, 47], [98, 47], [97, 47, 98, 47], [99, 47], [100, 47]]
def tails : List B := [[1], [2, 0, 0], [2, 0, 1], [2, 0, 2], [3, 120]]
def keys : List B := (paths.take 4).flatMap fun p => tails.map fun t => p ++ t
def values : List B := [[], [120], [121, 121], [49, 50, 51, 52, 53, 54, 55, 56, 57, 48], [0, 255]]
/-- the ends of a made message's move -/
def ends : List (B × B) := paths.flatMap fun a => paths.filterMap fun b => bif (a.isPrefixOf b || b.isPrefixOf a) then none else some (a, b)
def spanOk (s : B × B) : Bool := (eqs s.2 [] || lts s.1 s.2) && decide (s.1.length ≤ 8) && decide (s.2.length ≤ 8)
/-- the looks of made messages -/
inductive Good : V_api_Msg → Prop where
  | put (k v : B) (n : Int) : k ∈ keys → v ∈ values → 0 ≤ n → n < 8 → Good ((1 : Int), k, v, (([] : B), ([] : B)), ([] : B), ([] : B), n)
  | del (k : B) : k ∈ keys → Good ((2 : Int), k, ([] : B), (([] : B), ([] : B)), ([] : B), ([] : B), (0 : Int))
  | drop (s : B × B) : spanOk s = true → Good ((3 : Int), ([] : B), ([] : B), (s.1, s.2), ([] : B), ([] : B), (0 : Int))
  | move (e : B × B) : e ∈ ends → Good ((4 : Int), ([] : B), ([] : B), (([] : B), ([] : B)), e.1, e.2, (0 : Int))
  | clone (e : B × B) : e ∈ ends → Good ((5 : Int), ([] : B), ([] : B), (([] : B), ([] : B)), e.1, e.2, (0 : Int))
  | stamp (s : B × B) (n : Int) : spanOk s = true → 0 ≤ n → n < 8 → Good ((6 : Int), ([] : B), ([] : B), (s.1, s.2), ([] : B), ([] : B), n)
theorem path_ok {n : Int} (h0 : 0 ≤ n) (h1 : n < 256) : ∃ p, ref05_Path NN n = some p ∧ p ∈ paths := by
  obtain ⟨p, h, hp⟩ := u8_opt (f := ref05_Path NN) (p := fun x => paths.contains x) (by decide +kernel) h0 h1
  exact ⟨p, h, by simpa using hp⟩
theorem key_ok {n : Int} (h0 : 0 ≤ n) (h1 : n < 256) : ∃ p, ref05_Key NN n = some p ∧ p ∈ keys := by
  obtain ⟨p, h, hp⟩ := u8_opt (f := ref05_Key NN) (p := fun x => keys.contains x) (by decide +kernel) h0 h1
  exact ⟨p, h, by simpa using hp⟩
theorem value_ok {n : Int} (h0 : 0 ≤ n) (h1 : n < 256) : ∃ p, ref05_Value NN n = some p ∧ p ∈ values := by
  obtain ⟨p, h, hp⟩ := u8_opt (f := ref05_Value NN) (p := fun x => values.contains x) (by decide +kernel) h0 h1
  exact ⟨p, h, by simpa using hp⟩
/-- the eight fields as one message -/
def msgOf (v : Int × B × B × B × B × B × B × Int) : V_api_Msg := (v.1, v.2.1, v.2.2.1, (v.2.2.2.1, v.2.2.2.2.1), v.2.2.2.2.2.1, v.2.2.2.2.2.2.1, v.2.2.2.2.2.2.2)
theorem p1_ok {k a b lo hi : B} {x0 x1 x2 x3 x4 x5 : Int} {d0 : Int} {d1 d2 d3 d4 d5 d6 : B} {d7 : Int} (hk : k ∈ keys) (he : (a, b) ∈ ends) (hs : spanOk (lo, hi) = true)
    (h2 : 0 ≤ x2 ∧ x2 < 256) (h5 : 0 ≤ x5 ∧ x5 < 256) (h0 : 0 ≤ x0 ∧ x0 < 256) :
    ∃ r, ref05_Made_p1 NN k a b x0 x1 x2 x3 x4 x5 d0 d1 d2 d3 d4 d5 d6 d7 lo hi = some r ∧ Good (msgOf r.2.1) ∧ (Int.tmod x0 6 = 3 → r.2.1.1 = (4 : Int)) := by
  obtain ⟨v, hv, hvm⟩ := value_ok h2.1 h2.2
  have hn := tmod_b h5.1 (show (0 : Int) < 8 by decide)
  have hw : IntKind.wrap .i64 (Int.tmod x5 (8 : Int)) = Int.tmod x5 8 := w64 (by omega) (by omega)
  simp only [ref05_Made_p1, hv, hw]
  have no : ∀ {a : Int}, a ≠ 3 → eqi (Int.tmod x0 6) a = true → Int.tmod x0 6 = 3 → False := fun h1 h2 h3 => h1 ((eqi_iff.1 h2).symm.trans h3)
  cases q0 : eqi (Int.tmod x0 6) 0
  case true => exact ⟨_, rfl, .put k v _ hk hvm hn.1 hn.2, fun h => (no (by decide) q0 h).elim⟩
  cases q1 : eqi (Int.tmod x0 6) 1
  case true => exact ⟨_, rfl, .del k hk, fun h => (no (by decide) q1 h).elim⟩
  cases q2 : eqi (Int.tmod x0 6) 2
  case true => exact ⟨_, rfl, .drop (lo, hi) hs, fun h => (no (by decide) q2 h).elim⟩
  cases q3 : eqi (Int.tmod x0 6) 3
  case true => exact ⟨_, rfl, .move (a, b) he, fun _ => rfl⟩
  cases q4 : eqi (Int.tmod x0 6) 4
  case true => exact ⟨_, rfl, .clone (a, b) he, fun h => (no (by decide) q4 h).elim⟩
  exact ⟨_, rfl, .stamp (lo, hi) _ hs hn.1 hn.2, fun h => by rw [h] at q3; cases q3⟩
theorem p0_ok {k lo hi : B} {x0 x1 x2 x3 x4 x5 : Int} {d0 : Int} {d1 d2 d3 d4 d5 d6 : B} {d7 : Int} (hk : k ∈ keys) (hs : spanOk (lo, hi) = true)
    (h0 : 0 ≤ x0 ∧ x0 < 256) (h1 : 0 ≤ x1 ∧ x1 < 256) (h2 : 0 ≤ x2 ∧ x2 < 256) (h3 : 0 ≤ x3 ∧ x3 < 256) (h5 : 0 ≤ x5 ∧ x5 < 256) :
    ∃ r, ref05_Made_p0 NN k x0 x1 x2 x3 x4 x5 d0 d1 d2 d3 d4 d5 d6 d7 lo hi = some r ∧ Good (msgOf r.2.1) ∧ (Int.tmod x0 6 = 3 → r.2.1.1 = (4 : Int)) := by
  obtain ⟨p, hp, hpm⟩ := path_ok h1.1 h1.2
  obtain ⟨q, hq, hqm⟩ := path_ok h3.1 h3.2
  have hb : (paths.all fun p => paths.all fun q => okO (ref02_Begins NN p q) fun b => okO (ref02_Begins NN q p) fun c => 
      bif b || c then ends.contains (p, bif eqs p [100, 47] then [99, 47] else [100, 47]) else ends.contains (p, q)) = true := by decide +kernel
  obtain ⟨b, hb1, hb⟩ := okO_some (List.all_eq_true.1 (List.all_eq_true.1 hb p hpm) q hqm)
  obtain ⟨c, hc1, hb⟩ := okO_some hb
  have go : ∀ e : B, (p, e) ∈ ends → ∃ r, (match ref05_Made_p1 NN k p e x0 x1 x2 x3 x4 x5 d0 d1 d2 d3 d4 d5 d6 d7 lo hi with
      | some r11 => (some ((), ((r11.2.1.1, (r11.2.1.2.1, (r11.2.1.2.2.1, (r11.2.1.2.2.2.1, (r11.2.1.2.2.2.2.1, (r11.2.1.2.2.2.2.2.1, (r11.2.1.2.2.2.2.2.2.1, r11.2.1.2.2.2.2.2.2.2))))))), ())))
      | none => none) = some r ∧ Good (msgOf r.2.1) ∧ (Int.tmod x0 6 = 3 → r.2.1.1 = (4 : Int)) := by
    intro e he
    obtain ⟨r, h1, h2⟩ := p1_ok (lo := lo) (hi := hi) (x1 := x1) (x3 := x3) (x4 := x4) (d0 := d0) (d1 := d1) (d2 := d2) (d3 := d3) (d4 := d4) (d5 := d5) (d6 := d6) (d7 := d7) hk he hs h2 h5 h0
    exact ⟨_, by rw [h1], h2⟩
  simp only [ref05_Made_p0, hp, hq, hb1, hc1]
  cases b <;> cases c <;> cases e : eqs p [100, 47] <;> simp only [e, Bool.or_true, Bool.or_false, Bool.true_or, cond_true, cond_false, List.contains_iff_mem] at hb ⊢ <;> exact go _ hb
theorem made_int {x0 x1 x2 x3 x4 x5 : Int} (h0 : 0 ≤ x0 ∧ x0 < 256) (h1 : 0 ≤ x1 ∧ x1 < 256) (h2 : 0 ≤ x2 ∧ x2 < 256) (h3 : 0 ≤ x3 ∧ x3 < 256) (h4 : 0 ≤ x4 ∧ x4 < 256) (h5 : 0 ≤ x5 ∧ x5 < 256) :
    ∃ m, ref05_Made NN ((x0, x1, x2, x3, x4, x5) : Int × Int × Int × Int × Int × Int) = some m ∧ Good m ∧ (Int.tmod x0 6 = 3 → m.1 = (4 : Int)) := by
  obtain ⟨k, hk, hkm⟩ := key_ok h1.1 h1.2
  obtain ⟨l, hl, hlm⟩ := key_ok h3.1 h3.2
  obtain ⟨p, hp, hpm⟩ := path_ok h1.1 h1.2
  have hpre : (paths.all fun p => okO (ref02_Prefix NN p) fun s => spanOk s) = true := by decide +kernel
  have hone : (keys.all fun k => okO (ref02_One NN k) fun s => spanOk s) = true := by decide +kernel
  have hkey : (keys.all fun k => spanOk (k, [])) = true := by decide +kernel
  have hmm : (keys.all fun k => keys.all fun l => bif eqs k l then true else spanOk (bif lts k l || eqs k l then k else l, bif !(lts k l) then k else l)) = true := by decide +kernel
  obtain ⟨s, hs, hso⟩ := okO_some (List.all_eq_true.1 hpre p hpm)
  obtain ⟨o, ho, hoo⟩ := okO_some (List.all_eq_true.1 hone k hkm)
  have hke := List.all_eq_true.1 hkey k hkm
  have hml := List.all_eq_true.1 (List.all_eq_true.1 hmm k hkm) l hlm
  have go : ∀ lo hi : B, spanOk (lo, hi) = true → ∃ m, (match ref05_Made_p0 NN k x0 x1 x2 x3 x4 x5 (0 : Int) ([] : List UInt8) ([] : List UInt8) ([] : List UInt8) ([] : List UInt8) ([] : List UInt8) ([] : List UInt8) (0 : Int) lo hi with
      | some r17 => (some (r17.2.1.1, (r17.2.1.2.1, (r17.2.1.2.2.1, ((r17.2.1.2.2.2.1, r17.2.1.2.2.2.2.1), r17.2.1.2.2.2.2.2)))))
      | none => none) = some m ∧ Good m ∧ (Int.tmod x0 6 = 3 → m.1 = (4 : Int)) := by
    intro lo hi h
    obtain ⟨r, e1, e2⟩ := p0_ok (x4 := x4) (d0 := 0) (d1 := []) (d2 := []) (d3 := []) (d4 := []) (d5 := []) (d6 := []) (d7 := 0) hkm h h0 h1 h2 h3 h5
    exact ⟨msgOf r.2.1, by rw [e1]; rfl, e2⟩
  simp only [ref05_Made, hk, hl, hp, hs, ho]
  cases eqi (Int.tmod x4 4) 0
  case true => exact go _ _ hso
  cases eqi (Int.tmod x4 16) 1
  case true => exact go _ _ hke
  cases eqi (Int.tmod x4 16) 5
  case true => exact go _ _ (by decide)
  cases e : eqs k l
  case true => exact go _ _ hoo
  rw [e] at hml
  exact go _ _ (by simpa [e] using hml)
theorem made_ok3 {x : V_ref05_Raw} (hx : okT T_ref05_Raw x) : ∃ m, ref05_Made NN x = some m ∧ Good m ∧ (Int.tmod x.1 6 = 3 → m.1 = (4 : Int)) :=
  made_int (u8_of_wf hx.1) (u8_of_wf hx.2.1) (u8_of_wf hx.2.2.1) (u8_of_wf hx.2.2.2.1) (u8_of_wf hx.2.2.2.2.1) (u8_of_wf hx.2.2.2.2.2)
theorem made_ok {x : V_ref05_Raw} (hx : okT T_ref05_Raw x) : ∃ m, ref05_Made NN x = some m ∧ Good m := by
  obtain ⟨m, h1, h2, _⟩ := made_ok3 hx
  exact ⟨m, h1, h2⟩
abbrev Pr := V_api_Pair
/-- whether a span has a key -/
def hasB (s : V_api_Span) (k : B) : Bool := bif !(lts k s.1) then (bif eqs s.2 [] then true else lts k s.2) else false
theorem le_eq (a b : B) : (lts a b || eqs a b) = !(lts b a) := by
  rcases lts_tri a b with h | rfl | h
  · rw [h, lts_asymm h]; rfl
  · rw [eqs_self, lts_irrefl]; rfl
  · rw [h, lts_asymm h, eqs_ne (lts_ne h).symm]; rfl
/-- insertion by the key, as the reference does it -/
def putGo (p : Pr) : Bool → List Pr → List Pr
  | d, [] => bif d then [] else [p]
  | d, q :: t => (bif !d && !(lts q.1 p.1) then [p] else []) ++ ((bif !(eqs q.1 p.1) then [q] else []) ++ putGo p (d || !(lts q.1 p.1)) t)
def putDone (p : Pr) : Bool → List Pr → Bool
  | d, [] => d
  | d, q :: t => putDone p (d || !(lts q.1 p.1)) t
def putMid (p : Pr) : Bool → List Pr → List Pr
  | d, [] => []
  | d, q :: t => (bif !d && !(lts q.1 p.1) then [p] else []) ++ ((bif !(eqs q.1 p.1) then [q] else []) ++ putMid p (d || !(lts q.1 p.1)) t)
theorem putGo_eq (p : Pr) : ∀ (t : List Pr) (d : Bool), putGo p d t = putMid p d t ++ (bif putDone p d t then [] else [p])
  | [], d => by cases d <;> rfl
  | q :: t, d => by simp only [putGo, putMid, putDone, putGo_eq p t]; simp [List.append_assoc]
theorem putDone_true (p : Pr) : ∀ (t : List Pr), putDone p true t = true
  | [] => rfl
  | q :: t => by simp only [putDone, Bool.true_or]; exact putDone_true p t
theorem putMid_len (p : Pr) : ∀ (t : List Pr) (d : Bool), (putMid p d t).length ≤ t.length + (bif d then 0 else bif putDone p d t then 1 else 0)
  | [], d => by simp [putMid]
  | q :: t, d => by
    have i1 := putMid_len p t true
    have i2 := putMid_len p t false
    have i3 := putDone_true p t
    simp only [cond_true, cond_false] at i1 i2
    simp only [putMid, putDone, List.length_append, List.length_cons]
    cases d <;> cases lts q.1 p.1 <;> cases eqs q.1 p.1 <;> simp [i3] <;> omega
/-! ## spans -/
def emptyB (s : B × B) : Bool := !(eqs s.2 []) && (lts s.2 s.1 || eqs s.2 s.1)
theorem empty_eq (N : Nat) (s : V_api_Span) : span_Empty N s = some (emptyB s) := by
  simp only [span_Empty, emptyB]; cases eqs s.2 [] <;> rfl
theorem refEmpty_eq (N : Nat) (s : V_api_Span) : ref02_Empty N s = some (emptyB s) := by
  simp only [ref02_Empty, emptyB]; cases eqs s.2 [] <;> rfl
theorem empty_no {s : B × B} (h : emptyB s = true) (k : B) : hasB s k = false := by
  simp only [emptyB, Bool.and_eq_true, Bool.not_eq_true', Bool.or_eq_true] at h
  simp only [hasB, h.1]
  cases e : lts k s.1
  · simp only [Bool.not_false, cond_true, cond_false]
    rcases h.2 with h | h
    · cases e2 : lts k s.2
      · rfl
      · have := lts_trans e2 h; rw [e] at this; cases this
    · rw [eqs_iff.1 h]; exact e
  · rfl
/-! ## puts -/
theorem putGo_true (p : Pr) : ∀ t : List Pr, putGo p true t = t.filter (fun q => !(eqs q.1 p.1))
  | [] => rfl
  | q :: t => by
    simp only [putGo, Bool.not_true, Bool.false_and, cond_false, List.nil_append, Bool.true_or, putGo_true p t]
    cases e : eqs q.1 p.1
    · rw [List.filter_cons_of_pos (by simp [e])]; rfl
    · rw [List.filter_cons_of_neg (by simp [e])]; rfl
theorem putGo_insT (p : Pr) : ∀ {t : List Pr}, Srt t → putGo p false t = insT p t
  | [], _ => rfl
  | q :: t, hs => by
    obtain ⟨h1, h2⟩ := List.pairwise_cons.1 hs
    have ih := putGo_insT p h2
    have all : lts q.1 p.1 = false → t.filter (fun x => lts x.1 p.1) = [] ∧ t.filter (fun x => !(eqs x.1 p.1)) = t ∧ t.filter (fun x => lts p.1 x.1) = t := by
      intro e
      have hx : ∀ x ∈ t, lts p.1 x.1 = true := fun x hx => le_lts e (h1 x hx)
      exact ⟨List.filter_eq_nil_iff.2 fun x h => by simp [lts_asymm (hx x h)], List.filter_eq_self.2 fun x h => by rw [eqs_ne (lts_ne (hx x h)).symm]; rfl, List.filter_eq_self.2 fun x h => hx x h⟩
    simp only [putGo, Bool.not_false, Bool.true_and, Bool.false_or, insT]
    cases e : lts q.1 p.1
    · obtain ⟨a1, a2, a3⟩ := all e
      simp only [Bool.not_false, cond_true, putGo_true]
      rw [List.filter_cons_of_neg (by simp [e]), a1, a2]
      rcases lts_tri p.1 q.1 with g | g | g
      · rw [eqs_ne (lts_ne g).symm, List.filter_cons_of_pos (by simp [g]), a3]; rfl
      · rw [← g, eqs_self, List.filter_cons_of_neg (by rw [← g, lts_irrefl]; simp), a3]; rfl
      · rw [e] at g; cases g
    · have hne : eqs q.1 p.1 = false := eqs_ne (lts_ne e)
      simp only [Bool.not_true, cond_false, hne, Bool.not_false, cond_true, List.nil_append]
      rw [List.filter_cons_of_pos (by simp [e]), List.filter_cons_of_neg (by rw [lts_asymm e]; simp), ih]
      rfl
/-! ## unions -/
/-- the pairs of both, those of the second for keys that both have -/
def uniT {V : Type} (a b : List (B × V)) : List (B × V) := b.foldl (fun t p => insT p t) a
abbrev Mg := V_api_Msg
abbrev Sp := V_api_Span
/-! ## beginnings of texts -/
theorem cut_pre (k : B) (n : Nat) : cut2 k (0 : Int) (n : Int) = k.take n := by simp [cut2]
theorem pre_take (p k : B) : (decide (p.length ≤ k.length) && eqs (k.take p.length) p) = p.isPrefixOf k := by
  rw [Bool.eq_iff_iff]
  simp only [Bool.and_eq_true, decide_eq_true_eq, eqs_iff, List.isPrefixOf_iff_prefix]
  constructor
  · rintro ⟨_, h⟩; exact h ▸ List.take_prefix _ _
  · intro h; exact ⟨h.length_le, (List.prefix_iff_eq_take.1 h).symm⟩
theorem HasPrefix_ok (N : Nat) (k p : B) : stringslite_HasPrefix N k p = some (p.isPrefixOf k) := by
  simp only [stringslite_HasPrefix, ← pre_take]
  by_cases h : p.length ≤ k.length
  · rw [bif_t (by simp; omega), gd_t (by simp; omega), cut_pre]
    simp [h]
  · rw [bif_f (by simp; omega)]
    simp [h]
def preB (p : B) : B × B := (p, p.dropLast ++ [48])
/-! ## tables that are in order, and not too large -/
structure Ok (n L : Nat) (t : List Pr) : Prop where
  srt : Srt t
  len : t.length ≤ n
  key : ∀ p ∈ t, p.1.length ≤ L
theorem Ok.mono {n n' L L' : Nat} {t : List Pr} (h : Ok n L t) (hn : n ≤ n') (hL : L ≤ L') : Ok n' L' t := ⟨h.srt, Nat.le_trans h.len hn, fun p hp => Nat.le_trans (h.key p hp) hL⟩
theorem Ok.filter {n L : Nat} {t : List Pr} (h : Ok n L t) (f : Pr → Bool) : Ok n L (t.filter f) :=
  ⟨h.srt.filter f, Nat.le_trans (List.length_filter_le _ _) h.len, fun p hp => h.key p (List.mem_filter.1 hp).1⟩
theorem insT_mem {V : Type} {p x : B × V} {t : List (B × V)} (h : x ∈ insT p t) : x = p ∨ x ∈ t := by
  unfold insT at h
  rcases List.mem_append.1 h with h | h
  · exact .inr (List.mem_filter.1 h).1
  · rcases List.mem_cons.1 h with h | h
    · exact .inl h
    · exact .inr (List.mem_filter.1 h).1
theorem Ok.insT {n L : Nat} {t : List Pr} (h : Ok n L t) {p : Pr} (hp : p.1.length ≤ L) : Ok (n + 1) L (insT p t) :=
  ⟨h.srt.insT p, Nat.le_trans (insT_len p t) (by have := h.len; omega), fun q hq => by
    rcases insT_mem hq with rfl | hq
    · exact hp
    · exact h.key q hq⟩
theorem Ok.uniT {n m L : Nat} {t : List Pr} (h : Ok n L t) : ∀ {l : List Pr}, l.length ≤ m → (∀ p ∈ l, p.1.length ≤ L) → Ok (n + m) L (uniT t l) := by
  intro l hl hk
  unfold Ds.uniT
  induction l generalizing t n m with
  | nil => exact h.mono (by omega) (Nat.le_refl _)
  | cons p l ih =>
    simp only [List.length_cons] at hl
    rw [List.foldl_cons]
    exact (ih (n := n + 1) (m := m - 1) (h.insT (hk p (by simp))) (by omega) (fun q hq => hk q (by simp [hq]))).mono (by omega) (Nat.le_refl _)
theorem mvd_len {V : Type} (p q : B) (t : List (B × V)) : (mvd p q t).length ≤ t.length := by
  unfold mvd; rw [List.length_map]; exact List.length_filter_le _ _
theorem mvd_key {p q : B} {L : Nat} {t : List Pr} (h : ∀ x ∈ t, x.1.length ≤ L) : ∀ x ∈ mvd p q t, x.1.length ≤ q.length + L := by
  intro x hx
  unfold mvd at hx
  obtain ⟨y, hy, rfl⟩ := List.mem_map.1 hx
  have := h y (List.mem_filter.1 hy).1
  simp only [List.length_append, List.length_drop]; omega
theorem Ok.mvd {n L : Nat} {t : List Pr} (h : Ok n L t) (p q : B) : Ok n (q.length + L) (mvd p q t) :=
  ⟨h.srt.mvd p q, Nat.le_trans (mvd_len p q t) h.len, mvd_key h.key⟩
/-! ## stamps -/
def stp (s : B × B) (n : Int) (p : Pr) : Pr := bif hasB s p.1 then (p.1, p.2.1, n) else p
theorem Has_eq (N : Nat) (s : V_api_Span) (k : B) : span_Has N s k = some (hasB s k) := by
  simp only [span_Has, hasB]
  cases lts k s.1 <;> cases eqs s.2 [] <;> rfl
/-! ## one message -/
def app (m : Mg) (t : List Pr) : List Pr :=
  bif eqi m.1 1 then insT (m.2.1, m.2.2.1, m.2.2.2.2.2.2) t else
  bif eqi m.1 2 then t.filter (fun p => !(hasB (m.2.1, m.2.1 ++ [0]) p.1)) else
  bif eqi m.1 3 then t.filter (fun p => !(hasB m.2.2.2.1 p.1)) else
  bif eqi m.1 4 then (uniT (t.filter fun p => !(hasB (preB m.2.2.2.2.2.1) p.1)) (mvd m.2.2.2.2.1 m.2.2.2.2.2.1 t)).filter (fun p => !(hasB (preB m.2.2.2.2.1) p.1)) else
  bif eqi m.1 5 then uniT (t.filter fun p => !(hasB (preB m.2.2.2.2.2.1) p.1)) (mvd m.2.2.2.2.1 m.2.2.2.2.2.1 t) else
  bif eqi m.1 6 then t.map (stp m.2.2.2.1 m.2.2.2.2.2.2) else t
abbrev delMsg (k : B) : Mg := (2, k, [], ([], []), [], [], 0)
abbrev mv (k : Int) (e : B × B) : Mg := (k, [], [], ([], []), e.1, e.2, 0)
section one
variable {n L : Nat} {t : List Pr} (h : Ok n L t) (hn : n + 4 < NN) (hL : L < 1000000)
include h hn
include hL
end one
/-! ## many messages -/
theorem rd_at {α : Type} (xs : List α) (i : Int) (d : α) (h0 : 0 ≤ i) (h1 : i < (xs.length : Int)) : ∃ (h : i.toNat < xs.length), rdL xs i d = xs[i.toNat]'h := by
  have h : i.toNat < xs.length := by omega
  refine ⟨h, ?_⟩
  simp [rdL, List.getD, h]
theorem list_ok {xs : List (V_ref05_Raw)} (hx : okT (.list T_ref05_Raw) xs) {k : Int} (hk : 0 ≤ k ∧ k ≤ 24) :
    ∃ buf, ref05_List NN xs k = some buf ∧ (buf.length : Int) ≤ k ∧ ∀ m ∈ buf, Good m := by
  have hmem : ∀ i : Int, 0 ≤ i → i < (xs.length : Int) → okT T_ref05_Raw (rdL (α := V_ref05_Raw) xs i D_ref05_Raw) := by
    intro i h0 h1
    obtain ⟨h, e⟩ := rd_at xs i _ h0 h1
    rw [e]
    exact hx.2 i.toNat _ (List.getElem?_eq_getElem h)
  have hl : (xs.length : Int) ≤ 140737488351232 := by
    have : xs.length * 6 ≤ 0x7ffffffff000 := hx.1
    omega
  have loop := iter_inv (A := ((((List (V_ref05_Raw)) × (Int × (Unit × Int))) × ((List (V_api_Msg)) × Unit)))) (R := (Unit × ((List (V_api_Msg)) × Unit)))
    (f := fun rec v => ref05_List_l0_step NN (fun b0 b1 b2 b3 => rec ((b0, (b1, ((), b2))), (b3, ()))) v.1.1 v.1.2.1 v.1.2.2.2 v.2.1)
    (fun v => v.1.1 = xs ∧ v.1.2.1 = k ∧ 0 ≤ v.1.2.2.2 ∧ v.1.2.2.2 ≤ k ∧ (v.2.1.length : Int) = v.1.2.2.2 ∧ ∀ m ∈ v.2.1, Good m)
    (fun r => (r.2.1.length : Int) ≤ k ∧ ∀ m ∈ r.2.1, Good m) (fun v => (k - v.1.2.2.2).toNat)
    (by
      rintro rec ⟨⟨b0, b1, u, i⟩, out, _⟩ ⟨rfl, rfl, h3, h4, h5, h6⟩ ih
      simp only at h3 h4 h5 h6 hl hk hmem
      simp only [ref05_List_l0_step]
      cases e1 : decide (i < (b0.length : Int))
      · exact ⟨_, rfl, by simp only; omega, h6⟩
      cases e2 : decide (i < b1)
      · exact ⟨_, rfl, by simp only; omega, h6⟩
      have e1 := of_decide_eq_true e1
      have e2 := of_decide_eq_true e2
      obtain ⟨m, hm, gm⟩ := made_ok (hmem i h3 e1)
      simp only [cond_true]
      rw [gd_t (inB_t h3 e1), hm]
      simp only
      rw [gd_t (fits_t (by simp only [maxB]; omega) (by simp only [maxB]; omega)), w64 (by omega) (by omega)]
      exact ih ((b0, b1, (), i + 1), out ++ [m], ()) ⟨rfl, rfl, by simp only; omega, by simp only; omega, by simp; omega, fun m' hm' => by
        rcases List.mem_append.1 hm' with h | h
        · exact h6 _ h
        · simp at h; subst h; exact gm⟩ (by simp only; omega))
    NN ((xs, k, (), 0), [], ()) ⟨rfl, rfl, Int.le_refl _, hk.1, rfl, fun m h => by simp at h⟩ (by simp only [NN]; omega)
  obtain ⟨r, h1, h2⟩ := loop
  exact ⟨r.2.1, by simp only [ref05_List, ref05_List_l0, h1], h2⟩
abbrev Big (n : Nat) : Prop := n < 1000000000
/-! ## spans -/
theorem rHas_eq (N : Nat) (s : Sp) (k : B) : ref02_Has N s k = some (hasB s k) := by
  simp only [ref02_Has, hasB]
  cases lts k s.1 <;> cases eqs s.2 [] <;> rfl
/-! ## tables -/
theorem rBegins_ok (N : Nat) (k p : B) : ref02_Begins N k p = some (p.isPrefixOf k) := by
  simp only [ref02_Begins, ← pre_take]
  by_cases h : p.length ≤ k.length
  · rw [bif_t (by simp; omega), gd_t (by simp; omega), cut_pre]
    simp [h]
  · rw [bif_f (by simp; omega)]
    simp [h]
/-! ## ends, and meeting -/
def lessB (a b : B) : Bool := !(eqs a []) && (eqs b [] || lts a b)
theorem less_eq (N : Nat) (a b : B) : ref02_Less N a b = some (lessB a b) := by
  simp only [ref02_Less, lessB]
  cases eqs a [] <;> cases eqs b [] <;> rfl
theorem compare_neg (N : Nat) (a b : B) : ∃ r : Int, span_end_compare N a b = some r ∧ decide (r < 0) = lessB a b := by
  simp only [span_end_compare, lessB]
  cases e : eqs a b
  · cases e1 : eqs a []
    · cases e2 : eqs b []
      · simp only [cond_false, cmp_Compare_span_end, cmp_isNaN_span_end, eqs_self, Bool.not_true]
        cases e3 : lts a b
        · simp only [cond_false]
          cases (!(false || eqs a b))
          · exact ⟨0, rfl, rfl⟩
          · exact ⟨1, rfl, rfl⟩
        · exact ⟨-1, rfl, rfl⟩
      · exact ⟨-1, rfl, rfl⟩
    · exact ⟨1, rfl, rfl⟩
  · have := eqs_iff.1 e; subst this
    refine ⟨0, rfl, ?_⟩
    rw [lts_irrefl]
    cases eqs a [] <;> rfl
/-! ## inserting a span -/
/-! ## normal lists -/
/-! ## differences -/
theorem eqs_comm (a b : B) : eqs a b = eqs b a := by
  cases h : eqs b a
  · cases h2 : eqs a b
    · rfl
    · rw [eqs_iff.1 h2, eqs_self] at h; cases h
  · rw [eqs_iff.1 h, eqs_self]
section said
variable {m : Mg} (hm : Good m)
include hm
end said
section keys
variable {t : List Pr}
end keys
/-! ## freedom -/
section laws
variable {t : List Pr} (h : Ok 12 7 t)
include h
end laws
theorem small {n L : Nat} {t : List Pr} (h : Ok n L t) (hn : n < 100000) : t.length < NN ∧ Big t.length := by
  have := h.len
  exact ⟨by simp only [NN]; omega, by simp only [Big]; omega⟩
/-! ## the reference -/
theorem bif_and (a b : Bool) : (bif a then some b else some false) = some (a && b) := by cases a <;> rfl
def inR (n lo hi : Int) : Bool := decide (lo ≤ n) && decide (n ≤ hi)
theorem min_eq (N : Nat) (n lo hi : Int) : msg_in N n lo hi = some (inR n lo hi) := by simp only [msg_in, bif_and]; rfl
theorem rin_eq (N : Nat) (n lo hi : Int) : ref05_in N n lo hi = some (inR n lo hi) := by simp only [ref05_in, bif_and]; rfl
def nol (s : B) : Bool := eqs s []
theorem nol_eq (s : B) : eqs [] s = nol s := eqs_comm [] s
theorem nol_eq' (s : B) : eqs s [] = nol s := rfl
def spanV (s : Sp) : Bool := !(emptyB s) && (decide ((s.1.length : Int) ≤ 65535) && decide ((s.2.length : Int) ≤ 65535))
theorem ends_eq (N : Nat) (s : Sp) : msg_ends N s = some (spanV s) := by
  have h : decide ((bif decide ((s.1.length : Int) < (s.2.length : Int)) then (s.2.length : Int) else (s.1.length : Int)) ≤ (65535 : Int)) = (decide ((s.1.length : Int) ≤ 65535) && decide ((s.2.length : Int) ≤ 65535)) := by
    rw [Bool.eq_iff_iff]
    by_cases q : (s.1.length : Int) < (s.2.length : Int)
    · rw [decide_eq_true q]
      simp only [cond_true, decide_eq_true_eq, Bool.and_eq_true]; omega
    · rw [decide_eq_false q]
      simp only [cond_false, decide_eq_true_eq, Bool.and_eq_true]; omega
  simp only [msg_ends, empty_eq, h, bif_and, spanV]
theorem rspan_eq (N : Nat) (s : Sp) : ref05_span N s = some (spanV s) := by
  simp only [ref05_span, refEmpty_eq, bif_and, spanV]
def apartV (a b : B) : Bool := inR a.length 1 200 && (inR b.length 1 200 && (!(b.isPrefixOf a) && !(a.isPrefixOf b)))
theorem apart_eq (N : Nat) (a b : B) : msg_apart N a b = some (apartV a b) := by
  simp only [msg_apart, min_eq, strings_HasPrefix, HasPrefix_ok, bif_and, apartV]
def vldB (m : Mg) : Bool :=
  bif eqi m.1 1 then (inR m.2.1.length 1 65535 && (decide ((m.2.2.1.length : Int) ≤ 64) && inR m.2.2.2.2.2.2 0 1000000000)) && (nol m.2.2.2.1.1 && (nol m.2.2.2.1.2 && (nol m.2.2.2.2.1 && nol m.2.2.2.2.2.1))) else
  bif eqi m.1 2 then inR m.2.1.length 1 65535 && (nol m.2.2.1 && (nol m.2.2.2.1.1 && (nol m.2.2.2.1.2 && (nol m.2.2.2.2.1 && (nol m.2.2.2.2.2.1 && eqi m.2.2.2.2.2.2 0))))) else
  bif eqi m.1 3 then spanV m.2.2.2.1 && (nol m.2.1 && (nol m.2.2.1 && (nol m.2.2.2.2.1 && (nol m.2.2.2.2.2.1 && eqi m.2.2.2.2.2.2 0)))) else
  bif eqi m.1 4 || eqi m.1 5 then apartV m.2.2.2.2.1 m.2.2.2.2.2.1 && (nol m.2.1 && (nol m.2.2.1 && (nol m.2.2.2.1.1 && (nol m.2.2.2.1.2 && eqi m.2.2.2.2.2.2 0)))) else
  bif eqi m.1 6 then (spanV m.2.2.2.1 && inR m.2.2.2.2.2.2 0 1000000000) && (nol m.2.1 && (nol m.2.2.1 && (nol m.2.2.2.2.1 && nol m.2.2.2.2.2.1))) else false
theorem eqi_comm (a b : Int) : eqi a b = eqi b a := by
  cases h : eqi b a
  · cases h2 : eqi a b
    · rfl
    · rw [eqi_iff.1 h2, eqi_self] at h; cases h
  · rw [eqi_iff.1 h, eqi_self]
theorem Valid_eq (m : Mg) : msg_Valid NN m = some (vldB m) := by
  simp only [msg_Valid, msg_of, vldB]
  cases h1 : eqi m.1 1
  case true =>
    simp only [cond_true, msg_put_valid, msg_put_bare, min_eq, bif_and, eqi_self, eqs_self, nol_eq, Bool.true_and, Bool.and_true, Bool.and_assoc]
  case false =>
  cases h2 : eqi m.1 2
  case true =>
    simp only [cond_true, cond_false, msg_del_valid, msg_del_bare, min_eq, bif_and, eqi_self, eqs_self, nol_eq, Bool.true_and, Bool.and_true, eqi_comm 0]
  case false =>
  cases h3 : eqi m.1 3
  case true =>
    simp only [cond_true, cond_false, msg_drop_valid, msg_drop_bare, ends_eq, bif_and, eqi_self, eqs_self, nol_eq, Bool.true_and, Bool.and_true, eqi_comm 0]
  case false =>
  cases h4 : eqi m.1 4
  case true =>
    simp only [cond_true, cond_false, msg_move_valid, msg_move_bare, apart_eq, bif_and, eqi_self, eqs_self, nol_eq, Bool.true_and, Bool.and_true, eqi_comm 0, Bool.true_or]
  case false =>
  cases h5 : eqi m.1 5
  case true =>
    simp only [cond_true, cond_false, msg_clone_valid, msg_clone_bare, apart_eq, bif_and, eqi_self, eqs_self, nol_eq, Bool.true_and, Bool.and_true, eqi_comm 0, Bool.or_true]
  case false =>
  cases h6 : eqi m.1 6
  case true =>
    simp only [cond_true, cond_false, msg_stamp_valid, msg_stamp_bare, ends_eq, min_eq, bif_and, eqi_self, eqs_self, nol_eq, Bool.true_and, Bool.and_true, Bool.or_self, Bool.and_assoc]
  case false => simp only [cond_false, Bool.or_self]
theorem rValid_p0 (m : Mg) (st mvs : Bool) : ref05_Valid_p0 NN st m.1 mvs m.1 m.2.1 m.2.2.1 m.2.2.2.1.1 m.2.2.2.1.2 m.2.2.2.2.1 m.2.2.2.2.2.1 m.2.2.2.2.2.2 =
    some (bif mvs then .inl (apartV m.2.2.2.2.1 m.2.2.2.2.2.1 && (nol m.2.1 && (nol m.2.2.1 && (nol m.2.2.2.1.1 && (nol m.2.2.2.1.2 && eqi m.2.2.2.2.2.2 0)))), ()) else bif eqi m.1 6 then .inl ((spanV m.2.2.2.1 && st) && (nol m.2.1 && (nol m.2.2.1 && (nol m.2.2.2.2.1 && nol m.2.2.2.2.2.1))), ()) else .inr ((), ())) := by
  have e : (m.2.2.2.1.1, m.2.2.2.1.2) = m.2.2.2.1 := rfl
  simp only [ref05_Valid_p0, rBegins_ok, rin_eq, e, rspan_eq, nol_eq', eqi_self, eqs_self, Bool.true_and, Bool.and_true, apartV]
  cases mvs
  · simp only [cond_false]
    cases eqi m.1 6
    · rfl
    · simp only [cond_true]
      cases spanV m.2.2.2.1 <;> cases st <;> rfl
  · simp only [cond_true]
    cases m.2.2.2.2.2.1.isPrefixOf m.2.2.2.2.1 <;> cases m.2.2.2.2.1.isPrefixOf m.2.2.2.2.2.1 <;> cases inR m.2.2.2.2.1.length 1 200 <;> cases inR m.2.2.2.2.2.1.length 1 200 <;> rfl
theorem rValid_eq (m : Mg) : ref05_Valid NN m = some (vldB m) := by
  simp only [ref05_Valid, vldB, rin_eq, rspan_eq, rValid_p0]
  cases h1 : eqi m.1 1
  case true =>
    simp only [cond_true, bif_and, eqi_self, eqs_self, nol_eq', Bool.true_and, Bool.and_true, Bool.and_assoc]
  case false =>
  cases h2 : eqi m.1 2
  case true =>
    simp only [cond_true, cond_false, bif_and, eqi_self, eqs_self, nol_eq', Bool.true_and, Bool.and_true]
  case false =>
  cases h3 : eqi m.1 3
  case true =>
    simp only [cond_true, cond_false, bif_and, eqi_self, eqs_self, nol_eq', Bool.true_and, Bool.and_true]
  case false =>
  cases h4 : eqi m.1 4
  case true => simp only [cond_true, cond_false, Bool.true_or]
  case false =>
  cases h5 : eqi m.1 5
  case true => simp only [cond_true, cond_false, Bool.or_true]
  case false =>
  cases h6 : eqi m.1 6
  · simp only [cond_false, Bool.or_self]
  · simp only [cond_true, cond_false, Bool.or_self]
/-! ## bytes of numbers and texts -/
def byt (n : Int) (i : Nat) : Int := IntKind.wrap .u8 (Int.fdiv n (2 ^ (8 * i)))
def bytes (n : Int) : Nat → List Int
  | 0 => []
  | w + 1 => byt n w :: bytes n w
/-! ## bytes of messages -/
theorem inR_iff {n lo hi : Int} : inR n lo hi = true ↔ lo ≤ n ∧ n ≤ hi := by simp [inR]
theorem apartV_len {a b : B} (h : apartV a b = true) : (1 ≤ a.length ∧ a.length ≤ 200) ∧ 1 ≤ b.length ∧ b.length ≤ 200 := by
  simp only [apartV, Bool.and_eq_true, inR_iff] at h; omega
theorem good_vld {m : Mg} (hm : Good m) : vldB m = true := by
  cases hm with
  | put k v n hk hv h0 h1 =>
    have h : (keys.all fun k => values.all fun v => inR k.length 1 65535 && decide ((v.length : Int) ≤ 64)) = true := by decide +kernel
    have := List.all_eq_true.1 (List.all_eq_true.1 h k hk) v hv
    simp only [Bool.and_eq_true] at this
    have hn : inR n 0 1000000000 = true := inR_iff.2 ⟨h0, by omega⟩
    show ((inR k.length 1 65535 && (decide ((v.length : Int) ≤ 64) && inR n 0 1000000000)) && _) = true
    rw [this.1, this.2, hn]; rfl
  | del k hk =>
    have h : (keys.all fun k => vldB (delMsg k)) = true := by decide +kernel
    exact List.all_eq_true.1 h k hk
  | drop s hs =>
    simp only [spanOk, Bool.and_eq_true, Bool.or_eq_true, decide_eq_true_eq] at hs
    have i5 : emptyB s = false := by
      simp only [emptyB]
      rcases hs.1.1 with h | h
      · rw [h]; rfl
      · rw [lts_asymm h, eqs_ne (lts_ne h).symm]; simp
    have hv : spanV s = true := by
      simp only [spanV, i5, Bool.not_false, Bool.true_and, Bool.and_eq_true, decide_eq_true_eq]; omega
    show (spanV s && _) = true
    rw [hv]; rfl
  | move e he =>
    have h : (ends.all fun e => vldB (mv 4 e)) = true := by decide +kernel
    exact List.all_eq_true.1 h e he
  | clone e he =>
    have h : (ends.all fun e => vldB (mv 5 e)) = true := by decide +kernel
    exact List.all_eq_true.1 h e he
  | stamp s n hs h0 h1 =>
    simp only [spanOk, Bool.and_eq_true, Bool.or_eq_true, decide_eq_true_eq] at hs
    have i5 : emptyB s = false := by
      simp only [emptyB]
      rcases hs.1.1 with h | h
      · rw [h]; rfl
      · rw [lts_asymm h, eqs_ne (lts_ne h).symm]; simp
    have hv : spanV s = true := by
      simp only [spanV, i5, Bool.not_false, Bool.true_and, Bool.and_eq_true, decide_eq_true_eq]; omega
    have hn : inR n 0 1000000000 = true := inR_iff.2 ⟨h0, by omega⟩
    show ((spanV s && inR n 0 1000000000) && _) = true
    rw [hv, hn]; rfl
/-! ## bytes -/
def Byts (l : List Int) : Prop := ∀ x ∈ l, 0 ≤ x ∧ x < 256
theorem Byts.take {l : List Int} (h : Byts l) (n : Nat) : Byts (l.take n) := fun x hx => h x (List.mem_of_mem_take hx)
theorem Byts.drop {l : List Int} (h : Byts l) (n : Nat) : Byts (l.drop n) := fun x hx => h x (List.mem_of_mem_drop hx)
theorem wrap_u8 {n : Int} : 0 ≤ IntKind.wrap .u8 n ∧ IntKind.wrap .u8 n < 256 := by rw [IntKind.wrap_u8]; omega
theorem UI (s : B) : bytesU (bytesI s) = s := by
  unfold bytesI bytesU
  rw [List.map_map]
  conv => rhs; rw [← List.map_id s]
  refine List.map_congr_left fun x hx => ?_
  simp only [Function.comp, id, Int.toNat_natCast]
  exact UInt8.ofNat_toNat
/-! ## the reader -/
/-! ## reading what was written -/
/-! ## what is read was written -/
/-! ## MsgBytes -/
end Ds
