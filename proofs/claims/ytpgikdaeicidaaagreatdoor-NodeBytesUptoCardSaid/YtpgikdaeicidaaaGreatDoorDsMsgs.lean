/- Messages, as in law05: what is valid, what is read and written, bytes. -/
import Derived.Test.YtpgikdaeicidaaaGreatDoorDsPure
import Derived.Test.YtpgikdaeicidaaaGreatDoorDvD
import Derived.Test.YtpgikdaeicidaaaGreatDoorDvE
import Derived.Laws.BitsLemmas
set_option linter.all false
namespace Ds
open Go Go.Dv
set_option maxRecDepth 100000
set_option linter.unusedVariables false
abbrev B := List UInt8
abbrev NN : Nat := 100000000000
def paths : List B := [[97, 47], [98, 47], [97, 47, 98, 47], [99, 47], [100, 47]]
def tails : List B := [[1], [2, 0, 0], [2, 0, 1], [2, 0, 2], [3, 120]]
def keys : List B := (paths.take 4).flatMap fun p => tails.map fun t => p ++ t
def values : List B := [[], [120], [121, 121], [49, 50, 51, 52, 53, 54, 55, 56, 57, 48], [0, 255]]
def ends : List (B × B) := paths.flatMap fun a => paths.filterMap fun b => bif (a.isPrefixOf b || b.isPrefixOf a) then none else some (a, b)
def spanOk (s : B × B) : Bool := (eqs s.2 [] || lts s.1 s.2) && decide (s.1.length ≤ 8) && decide (s.2.length ≤ 8)
inductive Good : V_api_Msg → Prop where
  | put (k v : B) (n : Int) : k ∈ keys → v ∈ values → 0 ≤ n → n < 8 → Good ((1 : Int), k, v, (([] : B), ([] : B)), ([] : B), ([] : B), n)
  | del (k : B) : k ∈ keys → Good ((2 : Int), k, ([] : B), (([] : B), ([] : B)), ([] : B), ([] : B), (0 : Int))
  | drop (s : B × B) : spanOk s = true → Good ((3 : Int), ([] : B), ([] : B), (s.1, s.2), ([] : B), ([] : B), (0 : Int))
  | move (e : B × B) : e ∈ ends → Good ((4 : Int), ([] : B), ([] : B), (([] : B), ([] : B)), e.1, e.2, (0 : Int))
  | clone (e : B × B) : e ∈ ends → Good ((5 : Int), ([] : B), ([] : B), (([] : B), ([] : B)), e.1, e.2, (0 : Int))
  | stamp (s : B × B) (n : Int) : spanOk s = true → 0 ≤ n → n < 8 → Good ((6 : Int), ([] : B), ([] : B), (s.1, s.2), ([] : B), ([] : B), n)
theorem path_ok {n : Int} (h0 : 0 ≤ n) (h1 : n < 256) : ∃ p, ref05_Path NN n = some p ∧ p ∈ paths := by
  obtain ⟨p, h, hp⟩ := u8_opt (f := ref05_Path NN) (p := fun x => paths.contains x) (by decide +kernel) h0 h1
  exact ⟨p, h, by simpa using hp⟩
theorem key_ok {n : Int} (h0 : 0 ≤ n) (h1 : n < 256) : ∃ p, ref05_Key NN n = some p ∧ p ∈ keys := by
  obtain ⟨p, h, hp⟩ := u8_opt (f := ref05_Key NN) (p := fun x => keys.contains x) (by decide +kernel) h0 h1
  exact ⟨p, h, by simpa using hp⟩
theorem value_ok {n : Int} (h0 : 0 ≤ n) (h1 : n < 256) : ∃ p, ref05_Value NN n = some p ∧ p ∈ values := by
  obtain ⟨p, h, hp⟩ := u8_opt (f := ref05_Value NN) (p := fun x => values.contains x) (by decide +kernel) h0 h1
  exact ⟨p, h, by simpa using hp⟩
def msgOf (v : Int × B × B × B × B × B × B × Int) : V_api_Msg := (v.1, v.2.1, v.2.2.1, (v.2.2.2.1, v.2.2.2.2.1), v.2.2.2.2.2.1, v.2.2.2.2.2.2.1, v.2.2.2.2.2.2.2)
theorem p1_ok {k a b lo hi : B} {x0 x1 x2 x3 x4 x5 : Int} {d0 : Int} {d1 d2 d3 d4 d5 d6 : B} {d7 : Int} (hk : k ∈ keys) (he : (a, b) ∈ ends) (hs : spanOk (lo, hi) = true)
    (h2 : 0 ≤ x2 ∧ x2 < 256) (h5 : 0 ≤ x5 ∧ x5 < 256) (h0 : 0 ≤ x0 ∧ x0 < 256) :
    ∃ r, ref05_Made_p1 NN k a b x0 x1 x2 x3 x4 x5 d0 d1 d2 d3 d4 d5 d6 d7 lo hi = some r ∧ Good (msgOf r.2.1) ∧ (Int.tmod x0 6 = 3 → r.2.1.1 = (4 : Int)) := by
  obtain ⟨v, hv, hvm⟩ := value_ok h2.1 h2.2
  have hn := tmod_b h5.1 (show (0 : Int) < 8 by decide)
  have hw : IntKind.wrap .i64 (Int.tmod x5 (8 : Int)) = Int.tmod x5 8 := w64 (by omega) (by omega)
  simp only [ref05_Made_p1, hv, hw]
  have no : ∀ {a : Int}, a ≠ 3 → eqi (Int.tmod x0 6) a = true → Int.tmod x0 6 = 3 → False := fun h1 h2 h3 => h1 ((eqi_iff.1 h2).symm.trans h3)
  cases q0 : eqi (Int.tmod x0 6) 0
  case true => exact ⟨_, rfl, .put k v _ hk hvm hn.1 hn.2, fun h => (no (by decide) q0 h).elim⟩
  cases q1 : eqi (Int.tmod x0 6) 1
  case true => exact ⟨_, rfl, .del k hk, fun h => (no (by decide) q1 h).elim⟩
  cases q2 : eqi (Int.tmod x0 6) 2
  case true => exact ⟨_, rfl, .drop (lo, hi) hs, fun h => (no (by decide) q2 h).elim⟩
  cases q3 : eqi (Int.tmod x0 6) 3
  case true => exact ⟨_, rfl, .move (a, b) he, fun _ => rfl⟩
  cases q4 : eqi (Int.tmod x0 6) 4
  case true => exact ⟨_, rfl, .clone (a, b) he, fun h => (no (by decide) q4 h).elim⟩
  exact ⟨_, rfl, .stamp (lo, hi) _ hs hn.1 hn.2, fun h => by rw [h] at q3; cases q3⟩
theorem p0_ok {k lo hi : B} {x0 x1 x2 x3 x4 x5 : Int} {d0 : Int} {d1 d2 d3 d4 d5 d6 : B} {d7 : Int} (hk : k ∈ keys) (hs : spanOk (lo, hi) = true)
    (h0 : 0 ≤ x0 ∧ x0 < 256) (h1 : 0 ≤ x1 ∧ x1 < 256) (h2 : 0 ≤ x2 ∧ x2 < 256) (h3 : 0 ≤ x3 ∧ x3 < 256) (h5 : 0 ≤ x5 ∧ x5 < 256) :
    ∃ r, ref05_Made_p0 NN k x0 x1 x2 x3 x4 x5 d0 d1 d2 d3 d4 d5 d6 d7 lo hi = some r ∧ Good (msgOf r.2.1) ∧ (Int.tmod x0 6 = 3 → r.2.1.1 = (4 : Int)) := by
  obtain ⟨p, hp, hpm⟩ := path_ok h1.1 h1.2
  obtain ⟨q, hq, hqm⟩ := path_ok h3.1 h3.2
  have hb : (paths.all fun p => paths.all fun q => okO (ref02_Begins NN p q) fun b => okO (ref02_Begins NN q p) fun c => 
      bif b || c then ends.contains (p, bif eqs p [100, 47] then [99, 47] else [100, 47]) else ends.contains (p, q)) = true := by decide +kernel
  obtain ⟨b, hb1, hb⟩ := okO_some (List.all_eq_true.1 (List.all_eq_true.1 hb p hpm) q hqm)
  obtain ⟨c, hc1, hb⟩ := okO_some hb
  have go : ∀ e : B, (p, e) ∈ ends → ∃ r, (match ref05_Made_p1 NN k p e x0 x1 x2 x3 x4 x5 d0 d1 d2 d3 d4 d5 d6 d7 lo hi with
      | some r11 => (some ((), ((r11.2.1.1, (r11.2.1.2.1, (r11.2.1.2.2.1, (r11.2.1.2.2.2.1, (r11.2.1.2.2.2.2.1, (r11.2.1.2.2.2.2.2.1, (r11.2.1.2.2.2.2.2.2.1, r11.2.1.2.2.2.2.2.2.2))))))), ())))
      | none => none) = some r ∧ Good (msgOf r.2.1) ∧ (Int.tmod x0 6 = 3 → r.2.1.1 = (4 : Int)) := by
    intro e he
    obtain ⟨r, h1, h2⟩ := p1_ok (lo := lo) (hi := hi) (x1 := x1) (x3 := x3) (x4 := x4) (d0 := d0) (d1 := d1) (d2 := d2) (d3 := d3) (d4 := d4) (d5 := d5) (d6 := d6) (d7 := d7) hk he hs h2 h5 h0
    exact ⟨_, by rw [h1], h2⟩
  simp only [ref05_Made_p0, hp, hq, hb1, hc1]
  cases b <;> cases c <;> cases e : eqs p [100, 47] <;> simp only [e, Bool.or_true, Bool.or_false, Bool.true_or, cond_true, cond_false, List.contains_iff_mem] at hb ⊢ <;> exact go _ hb
theorem made_int {x0 x1 x2 x3 x4 x5 : Int} (h0 : 0 ≤ x0 ∧ x0 < 256) (h1 : 0 ≤ x1 ∧ x1 < 256) (h2 : 0 ≤ x2 ∧ x2 < 256) (h3 : 0 ≤ x3 ∧ x3 < 256) (h4 : 0 ≤ x4 ∧ x4 < 256) (h5 : 0 ≤ x5 ∧ x5 < 256) :
    ∃ m, ref05_Made NN ((x0, x1, x2, x3, x4, x5) : Int × Int × Int × Int × Int × Int) = some m ∧ Good m ∧ (Int.tmod x0 6 = 3 → m.1 = (4 : Int)) := by
  obtain ⟨k, hk, hkm⟩ := key_ok h1.1 h1.2
  obtain ⟨l, hl, hlm⟩ := key_ok h3.1 h3.2
  obtain ⟨p, hp, hpm⟩ := path_ok h1.1 h1.2
  have hpre : (paths.all fun p => okO (ref02_Prefix NN p) fun s => spanOk s) = true := by decide +kernel
  have hone : (keys.all fun k => okO (ref02_One NN k) fun s => spanOk s) = true := by decide +kernel
  have hkey : (keys.all fun k => spanOk (k, [])) = true := by decide +kernel
  have hmm : (keys.all fun k => keys.all fun l => bif eqs k l then true else spanOk (bif lts k l || eqs k l then k else l, bif !(lts k l) then k else l)) = true := by decide +kernel
  obtain ⟨s, hs, hso⟩ := okO_some (List.all_eq_true.1 hpre p hpm)
  obtain ⟨o, ho, hoo⟩ := okO_some (List.all_eq_true.1 hone k hkm)
  have hke := List.all_eq_true.1 hkey k hkm
  have hml := List.all_eq_true.1 (List.all_eq_true.1 hmm k hkm) l hlm
  have go : ∀ lo hi : B, spanOk (lo, hi) = true → ∃ m, (match ref05_Made_p0 NN k x0 x1 x2 x3 x4 x5 (0 : Int) ([] : List UInt8) ([] : List UInt8) ([] : List UInt8) ([] : List UInt8) ([] : List UInt8) ([] : List UInt8) (0 : Int) lo hi with
      | some r17 => (some (r17.2.1.1, (r17.2.1.2.1, (r17.2.1.2.2.1, ((r17.2.1.2.2.2.1, r17.2.1.2.2.2.2.1), r17.2.1.2.2.2.2.2)))))
      | none => none) = some m ∧ Good m ∧ (Int.tmod x0 6 = 3 → m.1 = (4 : Int)) := by
    intro lo hi h
    obtain ⟨r, e1, e2⟩ := p0_ok (x4 := x4) (d0 := 0) (d1 := []) (d2 := []) (d3 := []) (d4 := []) (d5 := []) (d6 := []) (d7 := 0) hkm h h0 h1 h2 h3 h5
    exact ⟨msgOf r.2.1, by rw [e1]; rfl, e2⟩
  simp only [ref05_Made, hk, hl, hp, hs, ho]
  cases eqi (Int.tmod x4 4) 0
  case true => exact go _ _ hso
  cases eqi (Int.tmod x4 16) 1
  case true => exact go _ _ hke
  cases eqi (Int.tmod x4 16) 5
  case true => exact go _ _ (by decide)
  cases e : eqs k l
  case true => exact go _ _ hoo
  rw [e] at hml
  exact go _ _ (by simpa [e] using hml)
theorem made_ok3 {x : V_ref05_Raw} (hx : okT T_ref05_Raw x) : ∃ m, ref05_Made NN x = some m ∧ Good m ∧ (Int.tmod x.1 6 = 3 → m.1 = (4 : Int)) :=
  made_int (u8_of_wf hx.1) (u8_of_wf hx.2.1) (u8_of_wf hx.2.2.1) (u8_of_wf hx.2.2.2.1) (u8_of_wf hx.2.2.2.2.1) (u8_of_wf hx.2.2.2.2.2)
theorem made_ok {x : V_ref05_Raw} (hx : okT T_ref05_Raw x) : ∃ m, ref05_Made NN x = some m ∧ Good m := by
  obtain ⟨m, h1, h2, _⟩ := made_ok3 hx
  exact ⟨m, h1, h2⟩
abbrev Pr := V_api_Pair
def hasB (s : V_api_Span) (k : B) : Bool := bif !(lts k s.1) then (bif eqs s.2 [] then true else lts k s.2) else false
theorem le_eq (a b : B) : (lts a b || eqs a b) = !(lts b a) := by
  rcases lts_tri a b with h | rfl | h
  · rw [h, lts_asymm h]; rfl
  · rw [eqs_self, lts_irrefl]; rfl
  · rw [h, lts_asymm h, eqs_ne (lts_ne h).symm]; rfl
def putGo (p : Pr) : Bool → List Pr → List Pr
  | d, [] => bif d then [] else [p]
  | d, q :: t => (bif !d && !(lts q.1 p.1) then [p] else []) ++ ((bif !(eqs q.1 p.1) then [q] else []) ++ putGo p (d || !(lts q.1 p.1)) t)
def putDone (p : Pr) : Bool → List Pr → Bool
  | d, [] => d
  | d, q :: t => putDone p (d || !(lts q.1 p.1)) t
def putMid (p : Pr) : Bool → List Pr → List Pr
  | d, [] => []
  | d, q :: t => (bif !d && !(lts q.1 p.1) then [p] else []) ++ ((bif !(eqs q.1 p.1) then [q] else []) ++ putMid p (d || !(lts q.1 p.1)) t)
theorem putGo_eq (p : Pr) : ∀ (t : List Pr) (d : Bool), putGo p d t = putMid p d t ++ (bif putDone p d t then [] else [p])
  | [], d => by cases d <;> rfl
  | q :: t, d => by simp only [putGo, putMid, putDone, putGo_eq p t]; simp [List.append_assoc]
theorem putDone_true (p : Pr) : ∀ (t : List Pr), putDone p true t = true
  | [] => rfl
  | q :: t => by simp only [putDone, Bool.true_or]; exact putDone_true p t
theorem putMid_len (p : Pr) : ∀ (t : List Pr) (d : Bool), (putMid p d t).length ≤ t.length + (bif d then 0 else bif putDone p d t then 1 else 0)
  | [], d => by simp [putMid]
  | q :: t, d => by
    have i1 := putMid_len p t true
    have i2 := putMid_len p t false
    have i3 := putDone_true p t
    simp only [cond_true, cond_false] at i1 i2
    simp only [putMid, putDone, List.length_append, List.length_cons]
    cases d <;> cases lts q.1 p.1 <;> cases eqs q.1 p.1 <;> simp [i3] <;> omega
def emptyB (s : B × B) : Bool := !(eqs s.2 []) && (lts s.2 s.1 || eqs s.2 s.1)
theorem empty_eq (N : Nat) (s : V_api_Span) : span_Empty N s = some (emptyB s) := by
  simp only [span_Empty, emptyB]; cases eqs s.2 [] <;> rfl
theorem refEmpty_eq (N : Nat) (s : V_api_Span) : ref02_Empty N s = some (emptyB s) := by
  simp only [ref02_Empty, emptyB]; cases eqs s.2 [] <;> rfl
theorem empty_no {s : B × B} (h : emptyB s = true) (k : B) : hasB s k = false := by
  simp only [emptyB, Bool.and_eq_true, Bool.not_eq_true', Bool.or_eq_true] at h
  simp only [hasB, h.1]
  cases e : lts k s.1
  · simp only [Bool.not_false, cond_true, cond_false]
    rcases h.2 with h | h
    · cases e2 : lts k s.2
      · rfl
      · have := lts_trans e2 h; rw [e] at this; cases this
    · rw [eqs_iff.1 h]; exact e
  · rfl
theorem putGo_true (p : Pr) : ∀ t : List Pr, putGo p true t = t.filter (fun q => !(eqs q.1 p.1))
  | [] => rfl
  | q :: t => by
    simp only [putGo, Bool.not_true, Bool.false_and, cond_false, List.nil_append, Bool.true_or, putGo_true p t]
    cases e : eqs q.1 p.1
    · rw [List.filter_cons_of_pos (by simp [e])]; rfl
    · rw [List.filter_cons_of_neg (by simp [e])]; rfl
theorem putGo_insT (p : Pr) : ∀ {t : List Pr}, Srt t → putGo p false t = insT p t
  | [], _ => rfl
  | q :: t, hs => by
    obtain ⟨h1, h2⟩ := List.pairwise_cons.1 hs
    have ih := putGo_insT p h2
    have all : lts q.1 p.1 = false → t.filter (fun x => lts x.1 p.1) = [] ∧ t.filter (fun x => !(eqs x.1 p.1)) = t ∧ t.filter (fun x => lts p.1 x.1) = t := by
      intro e
      have hx : ∀ x ∈ t, lts p.1 x.1 = true := fun x hx => le_lts e (h1 x hx)
      exact ⟨List.filter_eq_nil_iff.2 fun x h => by simp [lts_asymm (hx x h)], List.filter_eq_self.2 fun x h => by rw [eqs_ne (lts_ne (hx x h)).symm]; rfl, List.filter_eq_self.2 fun x h => hx x h⟩
    simp only [putGo, Bool.not_false, Bool.true_and, Bool.false_or, insT]
    cases e : lts q.1 p.1
    · obtain ⟨a1, a2, a3⟩ := all e
      simp only [Bool.not_false, cond_true, putGo_true]
      rw [List.filter_cons_of_neg (by simp [e]), a1, a2]
      rcases lts_tri p.1 q.1 with g | g | g
      · rw [eqs_ne (lts_ne g).symm, List.filter_cons_of_pos (by simp [g]), a3]; rfl
      · rw [← g, eqs_self, List.filter_cons_of_neg (by rw [← g, lts_irrefl]; simp), a3]; rfl
      · rw [e] at g; cases g
    · have hne : eqs q.1 p.1 = false := eqs_ne (lts_ne e)
      simp only [Bool.not_true, cond_false, hne, Bool.not_false, cond_true, List.nil_append]
      rw [List.filter_cons_of_pos (by simp [e]), List.filter_cons_of_neg (by rw [lts_asymm e]; simp), ih]
      rfl
abbrev Mg := V_api_Msg
abbrev Sp := V_api_Span
theorem cut_pre (k : B) (n : Nat) : cut2 k (0 : Int) (n : Int) = k.take n := by simp [cut2]
theorem pre_take (p k : B) : (decide (p.length ≤ k.length) && eqs (k.take p.length) p) = p.isPrefixOf k := by
  rw [Bool.eq_iff_iff]
  simp only [Bool.and_eq_true, decide_eq_true_eq, eqs_iff, List.isPrefixOf_iff_prefix]
  constructor
  · rintro ⟨_, h⟩; exact h ▸ List.take_prefix _ _
  · intro h; exact ⟨h.length_le, (List.prefix_iff_eq_take.1 h).symm⟩
theorem HasPrefix_ok (N : Nat) (k p : B) : stringslite_HasPrefix N k p = some (p.isPrefixOf k) := by
  simp only [stringslite_HasPrefix, ← pre_take]
  by_cases h : p.length ≤ k.length
  · rw [bif_t (by simp; omega), gd_t (by simp; omega), cut_pre]
    simp [h]
  · rw [bif_f (by simp; omega)]
    simp [h]
structure Ok (n L : Nat) (t : List Pr) : Prop where
  srt : Srt t
  len : t.length ≤ n
  key : ∀ p ∈ t, p.1.length ≤ L
theorem Ok.filter {n L : Nat} {t : List Pr} (h : Ok n L t) (f : Pr → Bool) : Ok n L (t.filter f) :=
  ⟨h.srt.filter f, Nat.le_trans (List.length_filter_le _ _) h.len, fun p hp => h.key p (List.mem_filter.1 hp).1⟩
theorem insT_mem {V : Type} {p x : B × V} {t : List (B × V)} (h : x ∈ insT p t) : x = p ∨ x ∈ t := by
  unfold insT at h
  rcases List.mem_append.1 h with h | h
  · exact .inr (List.mem_filter.1 h).1
  · rcases List.mem_cons.1 h with h | h
    · exact .inl h
    · exact .inr (List.mem_filter.1 h).1
theorem Ok.insT {n L : Nat} {t : List Pr} (h : Ok n L t) {p : Pr} (hp : p.1.length ≤ L) : Ok (n + 1) L (insT p t) :=
  ⟨h.srt.insT p, Nat.le_trans (insT_len p t) (by have := h.len; omega), fun q hq => by
    rcases insT_mem hq with rfl | hq
    · exact hp
    · exact h.key q hq⟩
theorem Has_eq (N : Nat) (s : V_api_Span) (k : B) : span_Has N s k = some (hasB s k) := by
  simp only [span_Has, hasB]
  cases lts k s.1 <;> cases eqs s.2 [] <;> rfl
abbrev putMsg (k v : B) (n : Int) : Mg := (1, k, v, ([], []), [], [], n)
abbrev delMsg (k : B) : Mg := (2, k, [], ([], []), [], [], 0)
abbrev dropMsg (s : B × B) : Mg := (3, [], [], s, [], [], 0)
abbrev mv (k : Int) (e : B × B) : Mg := (k, [], [], ([], []), e.1, e.2, 0)
abbrev stampMsg (s : B × B) (n : Int) : Mg := (6, [], [], s, [], [], n)
section one
variable {n L : Nat} {t : List Pr} (h : Ok n L t) (hn : n + 4 < NN) (hL : L < 1000000)
include h hn
include hL
end one
theorem good_key {k : B} (hk : k ∈ keys) : k.length ≤ 7 := by
  have h : (keys.all fun k => Nat.ble k.length 7) = true := by decide +kernel
  exact Nat.le_of_ble_eq_true (List.all_eq_true.1 h k hk)
theorem rd_at {α : Type} (xs : List α) (i : Int) (d : α) (h0 : 0 ≤ i) (h1 : i < (xs.length : Int)) : ∃ (h : i.toNat < xs.length), rdL xs i d = xs[i.toNat]'h := by
  have h : i.toNat < xs.length := by omega
  refine ⟨h, ?_⟩
  simp [rdL, List.getD, h]
theorem list_ok {xs : List (V_ref05_Raw)} (hx : okT (.list T_ref05_Raw) xs) {k : Int} (hk : 0 ≤ k ∧ k ≤ 24) :
    ∃ buf, ref05_List NN xs k = some buf ∧ (buf.length : Int) ≤ k ∧ ∀ m ∈ buf, Good m := by
  have hmem : ∀ i : Int, 0 ≤ i → i < (xs.length : Int) → okT T_ref05_Raw (rdL (α := V_ref05_Raw) xs i D_ref05_Raw) := by
    intro i h0 h1
    obtain ⟨h, e⟩ := rd_at xs i _ h0 h1
    rw [e]
    exact hx.2 i.toNat _ (List.getElem?_eq_getElem h)
  have hl : (xs.length : Int) ≤ 140737488351232 := by
    have : xs.length * 6 ≤ 0x7ffffffff000 := hx.1
    omega
  have loop := iter_inv (A := ((((List (V_ref05_Raw)) × (Int × (Unit × Int))) × ((List (V_api_Msg)) × Unit)))) (R := (Unit × ((List (V_api_Msg)) × Unit)))
    (f := fun rec v => ref05_List_l0_step NN (fun b0 b1 b2 b3 => rec ((b0, (b1, ((), b2))), (b3, ()))) v.1.1 v.1.2.1 v.1.2.2.2 v.2.1)
    (fun v => v.1.1 = xs ∧ v.1.2.1 = k ∧ 0 ≤ v.1.2.2.2 ∧ v.1.2.2.2 ≤ k ∧ (v.2.1.length : Int) = v.1.2.2.2 ∧ ∀ m ∈ v.2.1, Good m)
    (fun r => (r.2.1.length : Int) ≤ k ∧ ∀ m ∈ r.2.1, Good m) (fun v => (k - v.1.2.2.2).toNat)
    (by
      rintro rec ⟨⟨b0, b1, u, i⟩, out, _⟩ ⟨rfl, rfl, h3, h4, h5, h6⟩ ih
      simp only at h3 h4 h5 h6 hl hk hmem
      simp only [ref05_List_l0_step]
      cases e1 : decide (i < (b0.length : Int))
      · exact ⟨_, rfl, by simp only; omega, h6⟩
      cases e2 : decide (i < b1)
      · exact ⟨_, rfl, by simp only; omega, h6⟩
      have e1 := of_decide_eq_true e1
      have e2 := of_decide_eq_true e2
      obtain ⟨m, hm, gm⟩ := made_ok (hmem i h3 e1)
      simp only [cond_true]
      rw [gd_t (inB_t h3 e1), hm]
      simp only
      rw [gd_t (fits_t (by simp only [maxB]; omega) (by simp only [maxB]; omega)), w64 (by omega) (by omega)]
      exact ih ((b0, b1, (), i + 1), out ++ [m], ()) ⟨rfl, rfl, by simp only; omega, by simp only; omega, by simp; omega, fun m' hm' => by
        rcases List.mem_append.1 hm' with h | h
        · exact h6 _ h
        · simp at h; subst h; exact gm⟩ (by simp only; omega))
    NN ((xs, k, (), 0), [], ()) ⟨rfl, rfl, Int.le_refl _, hk.1, rfl, fun m h => by simp at h⟩ (by simp only [NN]; omega)
  obtain ⟨r, h1, h2⟩ := loop
  exact ⟨r.2.1, by simp only [ref05_List, ref05_List_l0, h1], h2⟩
abbrev Big (n : Nat) : Prop := n < 1000000000
theorem rHas_eq (N : Nat) (s : Sp) (k : B) : ref02_Has N s k = some (hasB s k) := by
  simp only [ref02_Has, hasB]
  cases lts k s.1 <;> cases eqs s.2 [] <;> rfl
theorem rBegins_ok (N : Nat) (k p : B) : ref02_Begins N k p = some (p.isPrefixOf k) := by
  simp only [ref02_Begins, ← pre_take]
  by_cases h : p.length ≤ k.length
  · rw [bif_t (by simp; omega), gd_t (by simp; omega), cut_pre]
    simp [h]
  · rw [bif_f (by simp; omega)]
    simp [h]
def lessB (a b : B) : Bool := !(eqs a []) && (eqs b [] || lts a b)
theorem less_eq (N : Nat) (a b : B) : ref02_Less N a b = some (lessB a b) := by
  simp only [ref02_Less, lessB]
  cases eqs a [] <;> cases eqs b [] <;> rfl
theorem compare_neg (N : Nat) (a b : B) : ∃ r : Int, span_end_compare N a b = some r ∧ decide (r < 0) = lessB a b := by
  simp only [span_end_compare, lessB]
  cases e : eqs a b
  · cases e1 : eqs a []
    · cases e2 : eqs b []
      · simp only [cond_false, cmp_Compare_span_end, cmp_isNaN_span_end, eqs_self, Bool.not_true]
        cases e3 : lts a b
        · simp only [cond_false]
          cases (!(false || eqs a b))
          · exact ⟨0, rfl, rfl⟩
          · exact ⟨1, rfl, rfl⟩
        · exact ⟨-1, rfl, rfl⟩
      · exact ⟨-1, rfl, rfl⟩
    · exact ⟨1, rfl, rfl⟩
  · have := eqs_iff.1 e; subst this
    refine ⟨0, rfl, ?_⟩
    rw [lts_irrefl]
    cases eqs a [] <;> rfl
theorem eqs_comm (a b : B) : eqs a b = eqs b a := by
  cases h : eqs b a
  · cases h2 : eqs a b
    · rfl
    · rw [eqs_iff.1 h2, eqs_self] at h; cases h
  · rw [eqs_iff.1 h, eqs_self]
section said
variable {m : Mg} (hm : Good m)
include hm
end said
section keys
variable {t : List Pr}
end keys
section laws
variable {t : List Pr} (h : Ok 12 7 t)
include h
end laws
theorem small {n L : Nat} {t : List Pr} (h : Ok n L t) (hn : n < 100000) : t.length < NN ∧ Big t.length := by
  have := h.len
  exact ⟨by simp only [NN]; omega, by simp only [Big]; omega⟩
theorem bif_and (a b : Bool) : (bif a then some b else some false) = some (a && b) := by cases a <;> rfl
def inR (n lo hi : Int) : Bool := decide (lo ≤ n) && decide (n ≤ hi)
theorem min_eq (N : Nat) (n lo hi : Int) : msg_in N n lo hi = some (inR n lo hi) := by simp only [msg_in, bif_and]; rfl
theorem rin_eq (N : Nat) (n lo hi : Int) : ref05_in N n lo hi = some (inR n lo hi) := by simp only [ref05_in, bif_and]; rfl
def nol (s : B) : Bool := eqs s []
theorem nol_eq (s : B) : eqs [] s = nol s := eqs_comm [] s
theorem nol_eq' (s : B) : eqs s [] = nol s := rfl
def spanV (s : Sp) : Bool := !(emptyB s) && (decide ((s.1.length : Int) ≤ 65535) && decide ((s.2.length : Int) ≤ 65535))
theorem ends_eq (N : Nat) (s : Sp) : msg_ends N s = some (spanV s) := by
  have h : decide ((bif decide ((s.1.length : Int) < (s.2.length : Int)) then (s.2.length : Int) else (s.1.length : Int)) ≤ (65535 : Int)) = (decide ((s.1.length : Int) ≤ 65535) && decide ((s.2.length : Int) ≤ 65535)) := by
    rw [Bool.eq_iff_iff]
    by_cases q : (s.1.length : Int) < (s.2.length : Int)
    · rw [decide_eq_true q]
      simp only [cond_true, decide_eq_true_eq, Bool.and_eq_true]; omega
    · rw [decide_eq_false q]
      simp only [cond_false, decide_eq_true_eq, Bool.and_eq_true]; omega
  simp only [msg_ends, empty_eq, h, bif_and, spanV]
theorem rspan_eq (N : Nat) (s : Sp) : ref05_span N s = some (spanV s) := by
  simp only [ref05_span, refEmpty_eq, bif_and, spanV]
def apartV (a b : B) : Bool := inR a.length 1 200 && (inR b.length 1 200 && (!(b.isPrefixOf a) && !(a.isPrefixOf b)))
theorem apart_eq (N : Nat) (a b : B) : msg_apart N a b = some (apartV a b) := by
  simp only [msg_apart, min_eq, strings_HasPrefix, HasPrefix_ok, bif_and, apartV]
def vldB (m : Mg) : Bool :=
  bif eqi m.1 1 then (inR m.2.1.length 1 65535 && (decide ((m.2.2.1.length : Int) ≤ 64) && inR m.2.2.2.2.2.2 0 1000000000)) && (nol m.2.2.2.1.1 && (nol m.2.2.2.1.2 && (nol m.2.2.2.2.1 && nol m.2.2.2.2.2.1))) else
  bif eqi m.1 2 then inR m.2.1.length 1 65535 && (nol m.2.2.1 && (nol m.2.2.2.1.1 && (nol m.2.2.2.1.2 && (nol m.2.2.2.2.1 && (nol m.2.2.2.2.2.1 && eqi m.2.2.2.2.2.2 0))))) else
  bif eqi m.1 3 then spanV m.2.2.2.1 && (nol m.2.1 && (nol m.2.2.1 && (nol m.2.2.2.2.1 && (nol m.2.2.2.2.2.1 && eqi m.2.2.2.2.2.2 0)))) else
  bif eqi m.1 4 || eqi m.1 5 then apartV m.2.2.2.2.1 m.2.2.2.2.2.1 && (nol m.2.1 && (nol m.2.2.1 && (nol m.2.2.2.1.1 && (nol m.2.2.2.1.2 && eqi m.2.2.2.2.2.2 0)))) else
  bif eqi m.1 6 then (spanV m.2.2.2.1 && inR m.2.2.2.2.2.2 0 1000000000) && (nol m.2.1 && (nol m.2.2.1 && (nol m.2.2.2.2.1 && nol m.2.2.2.2.2.1))) else false
theorem eqi_comm (a b : Int) : eqi a b = eqi b a := by
  cases h : eqi b a
  · cases h2 : eqi a b
    · rfl
    · rw [eqi_iff.1 h2, eqi_self] at h; cases h
  · rw [eqi_iff.1 h, eqi_self]
theorem Valid_eq (m : Mg) : msg_Valid NN m = some (vldB m) := by
  simp only [msg_Valid, msg_of, vldB]
  cases h1 : eqi m.1 1
  case true =>
    simp only [cond_true, msg_put_valid, msg_put_bare, min_eq, bif_and, eqi_self, eqs_self, nol_eq, Bool.true_and, Bool.and_true, Bool.and_assoc]
  case false =>
  cases h2 : eqi m.1 2
  case true =>
    simp only [cond_true, cond_false, msg_del_valid, msg_del_bare, min_eq, bif_and, eqi_self, eqs_self, nol_eq, Bool.true_and, Bool.and_true, eqi_comm 0]
  case false =>
  cases h3 : eqi m.1 3
  case true =>
    simp only [cond_true, cond_false, msg_drop_valid, msg_drop_bare, ends_eq, bif_and, eqi_self, eqs_self, nol_eq, Bool.true_and, Bool.and_true, eqi_comm 0]
  case false =>
  cases h4 : eqi m.1 4
  case true =>
    simp only [cond_true, cond_false, msg_move_valid, msg_move_bare, apart_eq, bif_and, eqi_self, eqs_self, nol_eq, Bool.true_and, Bool.and_true, eqi_comm 0, Bool.true_or]
  case false =>
  cases h5 : eqi m.1 5
  case true =>
    simp only [cond_true, cond_false, msg_clone_valid, msg_clone_bare, apart_eq, bif_and, eqi_self, eqs_self, nol_eq, Bool.true_and, Bool.and_true, eqi_comm 0, Bool.or_true]
  case false =>
  cases h6 : eqi m.1 6
  case true =>
    simp only [cond_true, cond_false, msg_stamp_valid, msg_stamp_bare, ends_eq, min_eq, bif_and, eqi_self, eqs_self, nol_eq, Bool.true_and, Bool.and_true, Bool.or_self, Bool.and_assoc]
  case false => simp only [cond_false, Bool.or_self]
theorem rValid_p0 (m : Mg) (st mvs : Bool) : ref05_Valid_p0 NN st m.1 mvs m.1 m.2.1 m.2.2.1 m.2.2.2.1.1 m.2.2.2.1.2 m.2.2.2.2.1 m.2.2.2.2.2.1 m.2.2.2.2.2.2 =
    some (bif mvs then .inl (apartV m.2.2.2.2.1 m.2.2.2.2.2.1 && (nol m.2.1 && (nol m.2.2.1 && (nol m.2.2.2.1.1 && (nol m.2.2.2.1.2 && eqi m.2.2.2.2.2.2 0)))), ()) else bif eqi m.1 6 then .inl ((spanV m.2.2.2.1 && st) && (nol m.2.1 && (nol m.2.2.1 && (nol m.2.2.2.2.1 && nol m.2.2.2.2.2.1))), ()) else .inr ((), ())) := by
  have e : (m.2.2.2.1.1, m.2.2.2.1.2) = m.2.2.2.1 := rfl
  simp only [ref05_Valid_p0, rBegins_ok, rin_eq, e, rspan_eq, nol_eq', eqi_self, eqs_self, Bool.true_and, Bool.and_true, apartV]
  cases mvs
  · simp only [cond_false]
    cases eqi m.1 6
    · rfl
    · simp only [cond_true]
      cases spanV m.2.2.2.1 <;> cases st <;> rfl
  · simp only [cond_true]
    cases m.2.2.2.2.2.1.isPrefixOf m.2.2.2.2.1 <;> cases m.2.2.2.2.1.isPrefixOf m.2.2.2.2.2.1 <;> cases inR m.2.2.2.2.1.length 1 200 <;> cases inR m.2.2.2.2.2.1.length 1 200 <;> rfl
theorem rValid_eq (m : Mg) : ref05_Valid NN m = some (vldB m) := by
  simp only [ref05_Valid, vldB, rin_eq, rspan_eq, rValid_p0]
  cases h1 : eqi m.1 1
  case true =>
    simp only [cond_true, bif_and, eqi_self, eqs_self, nol_eq', Bool.true_and, Bool.and_true, Bool.and_assoc]
  case false =>
  cases h2 : eqi m.1 2
  case true =>
    simp only [cond_true, cond_false, bif_and, eqi_self, eqs_self, nol_eq', Bool.true_and, Bool.and_true]
  case false =>
  cases h3 : eqi m.1 3
  case true =>
    simp only [cond_true, cond_false, bif_and, eqi_self, eqs_self, nol_eq', Bool.true_and, Bool.and_true]
  case false =>
  cases h4 : eqi m.1 4
  case true => simp only [cond_true, cond_false, Bool.true_or]
  case false =>
  cases h5 : eqi m.1 5
  case true => simp only [cond_true, cond_false, Bool.or_true]
  case false =>
  cases h6 : eqi m.1 6
  · simp only [cond_false, Bool.or_self]
  · simp only [cond_true, cond_false, Bool.or_self]
def byt (n : Int) (i : Nat) : Int := IntKind.wrap .u8 (Int.fdiv n (2 ^ (8 * i)))
theorem byt_eq (n : Int) (i : Nat) (hi : i < 8) : IntKind.wrap .u8 (Int.fdiv n (2 ^ min (Int.toNat (IntKind.wrap .i64 ((8 : Int) * (i : Int)))) (IntKind.bits .i64))) = byt n i := by
  have e : IntKind.wrap .i64 ((8 : Int) * (i : Int)) = ((8 * i : Nat) : Int) := by rw [w64 (by omega) (by omega)]; omega
  have b : IntKind.bits .i64 = 64 := rfl
  rw [e, Int.toNat_natCast, b, Nat.min_eq_left (by omega)]
  rfl
def bytes (n : Int) : Nat → List Int
  | 0 => []
  | w + 1 => byt n w :: bytes n w
theorem bytes_len (n : Int) : ∀ w, (bytes n w).length = w
  | 0 => rfl
  | w + 1 => by simp [bytes, bytes_len n w]
theorem wnum_l0 (N : Nat) (v : Int) : ∀ (w n : Nat) (out : List Int), w < n → w ≤ 8 → out.length + w < 1000000000 → msg_writer_number_m_l0 N n v ((w : Int) - 1) out = some ((), ((), (out ++ bytes v w, ())))
  | _, 0, _, h, _, _ => absurd h (Nat.not_lt_zero _)
  | 0, n + 1, out, _, _, _ => by
    rw [msg_writer_number_m_l0_succ]
    simp only [msg_writer_number_m_l0_step]
    rw [bif_f (by decide)]
    simp [bytes]
  | w + 1, n + 1, out, hn, hw, hl => by
    have e0 : ((w + 1 : Nat) : Int) - 1 = (w : Int) := by omega
    have e1 : IntKind.wrap .i64 ((w : Int) - (1 : Int)) = (w : Int) - 1 := w64 (by omega) (by omega)
    have e2 : decide (0 ≤ IntKind.wrap .i64 ((8 : Int) * (w : Int))) = true := by rw [w64 (by omega) (by omega)]; simp; omega
    rw [e0, msg_writer_number_m_l0_succ]
    simp only [msg_writer_number_m_l0_step, byt_eq v w (by omega), e1]
    rw [bif_t (by simp), gd_t e2, gd_t (fits_p (by omega) (by omega)), wnum_l0 N v w n _ (by omega) (by omega) (by simp; omega)]
    simp [bytes]
theorem wnum (v : Int) (w : Nat) (hw : w ≤ 8) (out : List Int) (hl : out.length < 100000000) : msg_writer_number_m NN v (w : Int) out = some ((), ((), (out ++ bytes v w, ()))) := by
  have e1 : IntKind.wrap .i64 ((w : Int) - (1 : Int)) = (w : Int) - 1 := w64 (by omega) (by omega)
  simp only [msg_writer_number_m, e1, wnum_l0 NN v w NN out (by simp only [NN]; omega) hw (by omega)]
theorem bytesI_len (s : B) : (bytesI s).length = s.length := by simp [bytesI]
def textB (s : B) : List Int := bytes (s.length : Int) 2 ++ bytesI s
theorem textB_len (s : B) : (textB s).length = 2 + s.length := by simp [textB, bytes_len, bytesI_len]
theorem wtext {s : B} (hs : s.length < 100000) (out : List Int) (hl : out.length < 10000000) : msg_writer_text_m NN s out = some ((), ((), (out ++ textB s, ()))) := by
  have h := wnum (s.length : Int) 2 (by omega) out (by omega)
  simp only [msg_writer_text_m, show ((2 : Nat) : Int) = 2 from rfl] at h ⊢
  simp only [h]
  rw [gd_t (fits_p (by simp [bytes_len, bytesI_len]; omega) (by omega))]
  simp [textB]
def bodyB (m : Mg) : List Int :=
  bif eqi m.1 1 then textB m.2.1 ++ textB m.2.2.1 ++ bytes m.2.2.2.2.2.2 4 else
  bif eqi m.1 2 then textB m.2.1 else
  bif eqi m.1 3 then textB m.2.2.2.1.1 ++ textB m.2.2.2.1.2 else
  bif eqi m.1 6 then textB m.2.2.2.1.1 ++ textB m.2.2.2.1.2 ++ bytes m.2.2.2.2.2.2 4 else
  textB m.2.2.2.2.1 ++ textB m.2.2.2.2.2.1
def bytesM (m : Mg) : List Int := IntKind.wrap .u8 m.1 :: bodyB m
def bytesV (m : Mg) : List Int := bif vldB m then bytesM m else []
theorem inR_iff {n lo hi : Int} : inR n lo hi = true ↔ lo ≤ n ∧ n ≤ hi := by simp [inR]
theorem vld_cases {m : Mg} (h : vldB m = true) :
    (∃ k v n, m = putMsg k v n ∧ 1 ≤ k.length ∧ k.length ≤ 65535 ∧ v.length ≤ 64 ∧ 0 ≤ n ∧ n ≤ 1000000000) ∨
    (∃ k, m = delMsg k ∧ 1 ≤ k.length ∧ k.length ≤ 65535) ∨
    (∃ s, m = dropMsg s ∧ spanV s = true) ∨
    (∃ k e, m = mv k e ∧ (k = 4 ∨ k = 5) ∧ apartV e.1 e.2 = true) ∨
    (∃ s n, m = stampMsg s n ∧ spanV s = true ∧ 0 ≤ n ∧ n ≤ 1000000000) := by
  obtain ⟨k, key, val, ⟨lo, hi⟩, fr, to, n⟩ := m
  simp only [vldB] at h
  have nl : ∀ {s : B}, nol s = true → s = [] := fun h => eqs_iff.1 h
  cases h1 : eqi k 1
  case true =>
    rw [h1] at h
    simp only [cond_true, Bool.and_eq_true, inR_iff, decide_eq_true_eq] at h
    obtain ⟨⟨a, b, c⟩, d1, d2, d3, d4⟩ := h
    have e := eqi_iff.1 h1
    rw [e, nl d1, nl d2, nl d3, nl d4]
    exact .inl ⟨key, val, n, rfl, by omega, by omega, by omega, c.1, c.2⟩
  case false =>
  rw [h1] at h
  cases h2 : eqi k 2
  case true =>
    rw [h2] at h
    simp only [cond_true, cond_false, Bool.and_eq_true, inR_iff] at h
    obtain ⟨a, d0, d1, d2, d3, d4, d5⟩ := h
    rw [eqi_iff.1 h2, nl d0, nl d1, nl d2, nl d3, nl d4, eqi_iff.1 d5]
    exact .inr (.inl ⟨key, rfl, by omega, by omega⟩)
  case false =>
  rw [h2] at h
  cases h3 : eqi k 3
  case true =>
    rw [h3] at h
    simp only [cond_true, cond_false, Bool.and_eq_true] at h
    obtain ⟨a, d0, d1, d3, d4, d5⟩ := h
    rw [eqi_iff.1 h3, nl d0, nl d1, nl d3, nl d4, eqi_iff.1 d5]
    exact .inr (.inr (.inl ⟨(lo, hi), rfl, a⟩))
  case false =>
  rw [h3] at h
  cases h4 : (eqi k 4 || eqi k 5)
  case true =>
    rw [h4] at h
    simp only [cond_true, cond_false, Bool.and_eq_true] at h
    obtain ⟨a, d0, d1, d2, d3, d5⟩ := h
    rw [nl d0, nl d1, nl d2, nl d3, eqi_iff.1 d5]
    refine .inr (.inr (.inr (.inl ⟨k, (fr, to), rfl, ?_, a⟩)))
    simpa [eqi_iff] using h4
  case false =>
  rw [h4] at h
  cases h6 : eqi k 6
  case true =>
    rw [h6] at h
    simp only [cond_true, cond_false, Bool.and_eq_true, inR_iff] at h
    obtain ⟨⟨a, c⟩, d0, d1, d3, d4⟩ := h
    rw [eqi_iff.1 h6, nl d0, nl d1, nl d3, nl d4]
    exact .inr (.inr (.inr (.inr ⟨(lo, hi), n, rfl, a, c.1, c.2⟩)))
  case false => rw [h6] at h; cases h
theorem spanV_len {s : Sp} (h : spanV s = true) : s.1.length ≤ 65535 ∧ s.2.length ≤ 65535 := by
  simp only [spanV, Bool.and_eq_true, decide_eq_true_eq] at h; omega
theorem apartV_len {a b : B} (h : apartV a b = true) : (1 ≤ a.length ∧ a.length ≤ 200) ∧ 1 ≤ b.length ∧ b.length ≤ 200 := by
  simp only [apartV, Bool.and_eq_true, inR_iff] at h; omega
theorem Bytes_eq (m : Mg) : msg_Bytes NN m = some (bytesV m) := by
  simp only [msg_Bytes, Valid_eq, bytesV]
  cases h : vldB m
  · rfl
  · simp only [Bool.not_true, cond_false, cond_true]
    have n4 := fun (v : Int) out hl => wnum v 4 (by omega) out hl
    simp only [show ((4 : Nat) : Int) = 4 from rfl] at n4
    rcases vld_cases h with ⟨k, v, n, rfl, h1, h2, h3, h4, h5⟩ | ⟨k, rfl, h1, h2⟩ | ⟨s, rfl, h1⟩ | ⟨k, e, rfl, hk, h1⟩ | ⟨s, n, rfl, h1, h2, h3⟩
    · have e : msg_of NN (putMsg k v n) = some (.inl (putMsg k v n)) := rfl
      simp only [e, msg_put_write_m]
      rw [wtext (by omega) _ (by simp)]
      simp only
      rw [wtext (by omega) _ (by simp [textB_len]; omega)]
      simp only
      rw [n4 _ _ (by simp [textB_len]; omega)]
      simp [bytesM, bodyB]
    · have e : msg_of NN (delMsg k) = some (.inr (.inl (delMsg k))) := rfl
      simp only [e, msg_del_write_m]
      rw [wtext (by omega) _ (by simp)]
      rfl
    · have e : msg_of NN (dropMsg s) = some (.inr (.inr (.inl (dropMsg s)))) := rfl
      have := spanV_len h1
      simp only [e, msg_drop_write_m]
      rw [wtext (by omega) _ (by simp)]
      simp only
      rw [wtext (by omega) _ (by simp [textB_len]; omega)]
      simp only [List.append_assoc]
      rfl
    · have := apartV_len h1
      rcases hk with rfl | rfl
      · have e' : msg_of NN (mv 4 e) = some (.inr (.inr (.inr (.inl (mv 4 e))))) := rfl
        simp only [e', msg_move_write_m]
        rw [wtext (by omega) _ (by simp)]
        simp only
        rw [wtext (by omega) _ (by simp [textB_len]; omega)]
        simp only [List.append_assoc]
        rfl
      · have e' : msg_of NN (mv 5 e) = some (.inr (.inr (.inr (.inr (.inl (mv 5 e)))))) := rfl
        simp only [e', msg_clone_write_m, msg_move_write_m]
        rw [wtext (by omega) _ (by simp)]
        simp only
        rw [wtext (by omega) _ (by simp [textB_len]; omega)]
        simp only [List.append_assoc]
        rfl
    · have e : msg_of NN (stampMsg s n) = some (.inr (.inr (.inr (.inr (.inr (.inl (stampMsg s n))))))) := rfl
      have := spanV_len h1
      simp only [e, msg_stamp_write_m, msg_drop_write_m]
      rw [wtext (by omega) _ (by simp)]
      simp only
      rw [wtext (by omega) _ (by simp [textB_len]; omega)]
      simp only
      rw [n4 _ _ (by simp [textB_len]; omega)]
      show some _ = some (_ :: (textB s.1 ++ textB s.2 ++ bytes n 4))
      simp
theorem SameB (a : List Int) : ref05_SameBytes NN a a = some true := by simp [ref05_SameBytes]
theorem good_vld {m : Mg} (hm : Good m) : vldB m = true := by
  cases hm with
  | put k v n hk hv h0 h1 =>
    have h : (keys.all fun k => values.all fun v => inR k.length 1 65535 && decide ((v.length : Int) ≤ 64)) = true := by decide +kernel
    have := List.all_eq_true.1 (List.all_eq_true.1 h k hk) v hv
    simp only [Bool.and_eq_true] at this
    have hn : inR n 0 1000000000 = true := inR_iff.2 ⟨h0, by omega⟩
    show ((inR k.length 1 65535 && (decide ((v.length : Int) ≤ 64) && inR n 0 1000000000)) && _) = true
    rw [this.1, this.2, hn]; rfl
  | del k hk =>
    have h : (keys.all fun k => vldB (delMsg k)) = true := by decide +kernel
    exact List.all_eq_true.1 h k hk
  | drop s hs =>
    simp only [spanOk, Bool.and_eq_true, Bool.or_eq_true, decide_eq_true_eq] at hs
    have i5 : emptyB s = false := by
      simp only [emptyB]
      rcases hs.1.1 with h | h
      · rw [h]; rfl
      · rw [lts_asymm h, eqs_ne (lts_ne h).symm]; simp
    have hv : spanV s = true := by
      simp only [spanV, i5, Bool.not_false, Bool.true_and, Bool.and_eq_true, decide_eq_true_eq]; omega
    show (spanV s && _) = true
    rw [hv]; rfl
  | move e he =>
    have h : (ends.all fun e => vldB (mv 4 e)) = true := by decide +kernel
    exact List.all_eq_true.1 h e he
  | clone e he =>
    have h : (ends.all fun e => vldB (mv 5 e)) = true := by decide +kernel
    exact List.all_eq_true.1 h e he
  | stamp s n hs h0 h1 =>
    simp only [spanOk, Bool.and_eq_true, Bool.or_eq_true, decide_eq_true_eq] at hs
    have i5 : emptyB s = false := by
      simp only [emptyB]
      rcases hs.1.1 with h | h
      · rw [h]; rfl
      · rw [lts_asymm h, eqs_ne (lts_ne h).symm]; simp
    have hv : spanV s = true := by
      simp only [spanV, i5, Bool.not_false, Bool.true_and, Bool.and_eq_true, decide_eq_true_eq]; omega
    have hn : inR n 0 1000000000 = true := inR_iff.2 ⟨h0, by omega⟩
    show ((spanV s && inR n 0 1000000000) && _) = true
    rw [hv, hn]; rfl
theorem good_lens {m : Mg} (hm : Good m) : m.2.1.length ≤ 20 ∧ m.2.2.1.length ≤ 20 ∧ m.2.2.2.2.1.length ≤ 20 ∧ m.2.2.2.2.2.1.length ≤ 20 := by
  have hv : ∀ v ∈ values, v.length ≤ 20 := by
    have h : (values.all fun v => Nat.ble v.length 20) = true := by decide +kernel
    exact fun v hv => Nat.le_of_ble_eq_true (List.all_eq_true.1 h v hv)
  have hp : ∀ e ∈ ends, e.1.length ≤ 20 ∧ e.2.length ≤ 20 := by
    have h : (ends.all fun e => Nat.ble e.1.length 20 && Nat.ble e.2.length 20) = true := by decide +kernel
    intro e he
    have := List.all_eq_true.1 h e he
    simp only [Bool.and_eq_true] at this
    exact ⟨Nat.le_of_ble_eq_true this.1, Nat.le_of_ble_eq_true this.2⟩
  cases hm with
  | put k v n hk hv' => exact ⟨by have := good_key hk; simp only; omega, hv v hv', by simp, by simp⟩
  | del k hk => exact ⟨by have := good_key hk; simp only; omega, by simp, by simp, by simp⟩
  | drop s => exact ⟨by simp, by simp, by simp, by simp⟩
  | move e he => exact ⟨by simp, by simp, (hp e he).1, (hp e he).2⟩
  | clone e he => exact ⟨by simp, by simp, (hp e he).1, (hp e he).2⟩
  | stamp s n => exact ⟨by simp, by simp, by simp, by simp⟩
def Byts (l : List Int) : Prop := ∀ x ∈ l, 0 ≤ x ∧ x < 256
theorem byts_nil : Byts [] := fun x hx => by cases hx
theorem Byts.append {a b : List Int} (ha : Byts a) (hb : Byts b) : Byts (a ++ b) := fun x hx => (List.mem_append.1 hx).elim (ha x) (hb x)
theorem Byts.take {l : List Int} (h : Byts l) (n : Nat) : Byts (l.take n) := fun x hx => h x (List.mem_of_mem_take hx)
theorem Byts.drop {l : List Int} (h : Byts l) (n : Nat) : Byts (l.drop n) := fun x hx => h x (List.mem_of_mem_drop hx)
theorem byts_I (s : B) : Byts (bytesI s) := by
  intro x hx
  obtain ⟨b, _, rfl⟩ := List.mem_map.1 hx
  have := b.toNat_lt
  omega
theorem wrap_u8 {n : Int} : 0 ≤ IntKind.wrap .u8 n ∧ IntKind.wrap .u8 n < 256 := by rw [IntKind.wrap_u8]; omega
theorem byts_n (v : Int) : ∀ w, Byts (bytes v w)
  | 0 => fun x hx => by cases hx
  | w + 1 => fun x hx => by
    rcases List.mem_cons.1 hx with rfl | hx
    · exact wrap_u8
    · exact byts_n v w x hx
theorem IU {l : List Int} (h : Byts l) : bytesI (bytesU l) = l := by
  unfold bytesI bytesU
  rw [List.map_map]
  conv => rhs; rw [← List.map_id l]
  refine List.map_congr_left fun x hx => ?_
  have := h x hx
  have e : (UInt8.ofNat x.toNat).toNat = x.toNat % 256 := by simp
  simp only [Function.comp, id, e]
  omega
theorem UI (s : B) : bytesU (bytesI s) = s := by
  unfold bytesI bytesU
  rw [List.map_map]
  conv => rhs; rw [← List.map_id s]
  refine List.map_congr_left fun x hx => ?_
  simp only [Function.comp, id, Int.toNat_natCast]
  exact UInt8.ofNat_toNat
theorem U_len (l : List Int) : (bytesU l).length = l.length := by simp [bytesU]
theorem U_inj {a b : List Int} (ha : Byts a) (hb : Byts b) (h : bytesU a = bytesU b) : a = b := by rw [← IU ha, h, IU hb]
def rdN (l : List Int) : Int := l.foldl (fun n x => n * 256 + x) 0
theorem rd_gen (l : List Int) (n : Int) : l.foldl (fun n x => n * 256 + x) n = n * 256 ^ l.length + rdN l := by
  unfold rdN
  induction l generalizing n with
  | nil => simp
  | cons x l ih =>
    rw [List.foldl_cons, ih, List.foldl_cons, ih (0 * 256 + x)]
    rw [List.length_cons, Int.pow_succ]
    have : n * (256 ^ l.length * 256) = n * 256 * 256 ^ l.length := by rw [Int.mul_comm (256 ^ l.length) 256, Int.mul_assoc]
    rw [this, Int.add_mul]
    simp
    omega
theorem rd_bound {l : List Int} (h : Byts l) : 0 ≤ rdN l ∧ rdN l < 256 ^ l.length := by
  induction l with
  | nil => simp [rdN]
  | cons x l ih =>
    have hx := h x (by simp)
    have ih := ih fun y hy => h y (by simp [hy])
    have e : rdN (x :: l) = x * 256 ^ l.length + rdN l := by
      have := rd_gen l (0 * 256 + x)
      simp only [rdN, List.foldl_cons] at this ⊢
      rw [this]; simp
    have p : (0 : Int) < 256 ^ l.length := Int.pow_pos (by omega)
    have q : x * 256 ^ l.length ≤ 255 * 256 ^ l.length := Int.mul_le_mul_of_nonneg_right (by omega) (by omega)
    have r : 0 ≤ x * 256 ^ l.length := Int.mul_nonneg hx.1 (by omega)
    rw [e, List.length_cons, Int.pow_succ]
    omega
theorem byt_nat {v : Int} (h0 : 0 ≤ v) (w : Nat) : byt v w = v / 256 ^ w % 256 := by
  unfold byt
  have e : (2 : Int) ^ (8 * w) = 256 ^ w := by rw [Int.pow_mul]; rfl
  have p : (0 : Int) < 256 ^ w := Int.pow_pos (by omega)
  rw [e, Int.fdiv_eq_ediv_of_nonneg _ (by omega), IntKind.wrap_u8]
theorem rd_bytes : ∀ (w : Nat) {v : Int}, 0 ≤ v → rdN (bytes v w) = v % 256 ^ w
  | 0, v, h => by simp [bytes, rdN, Int.emod_one]
  | w + 1, v, h => by
    have e : rdN (bytes v (w + 1)) = byt v w * 256 ^ w + rdN (bytes v w) := by
      have := rd_gen (bytes v w) (0 * 256 + byt v w)
      simp only [rdN, bytes, List.foldl_cons] at this ⊢
      rw [this, bytes_len]; simp
    rw [e, byt_nat h, rd_bytes w h, Int.pow_succ]
    have p : (0 : Int) < 256 ^ w := Int.pow_pos (by omega)
    have h1 := Int.emod_add_mul_ediv v (256 ^ w * 256)
    have h2 := Int.emod_add_mul_ediv v (256 ^ w)
    have h3 := Int.emod_add_mul_ediv (v / 256 ^ w) 256
    have h4 : v / (256 ^ w * 256) = v / 256 ^ w / 256 := by rw [Int.ediv_ediv_of_nonneg (by omega)]
    rw [h4] at h1
    have h5 : 256 ^ w * 256 * (v / 256 ^ w / 256) = 256 ^ w * (256 * (v / 256 ^ w / 256)) := by rw [Int.mul_assoc]
    have h6 : 256 ^ w * (v / 256 ^ w) = 256 ^ w * (v / 256 ^ w % 256) + 256 ^ w * (256 * (v / 256 ^ w / 256)) := by rw [← Int.mul_add, h3]
    rw [Int.mul_comm (v / 256 ^ w % 256)]
    omega
theorem bytes_mod (v u : Int) (hv : 0 ≤ v) (hu : 0 ≤ u) : ∀ w, v % 256 ^ w = u % 256 ^ w → bytes v w = bytes u w
  | 0, _ => rfl
  | w + 1, h => by
    have p : (0 : Int) < 256 ^ w := Int.pow_pos (by omega)
    have dv : (256 : Int) ^ w ∣ 256 ^ (w + 1) := ⟨256, by rw [Int.pow_succ]⟩
    have e1 : v % 256 ^ w = u % 256 ^ w := by
      rw [← Int.emod_emod_of_dvd v dv, ← Int.emod_emod_of_dvd u dv, h]
    have e2 : ∀ x : Int, 0 ≤ x → x / 256 ^ w % 256 = x % 256 ^ (w + 1) / 256 ^ w := by
      intro x hx
      rw [Int.pow_succ]
      have h1 := Int.emod_add_mul_ediv x (256 ^ w * 256)
      have h5 : 256 ^ w * 256 * (x / (256 ^ w * 256)) = 256 ^ w * (256 * (x / (256 ^ w * 256))) := by rw [Int.mul_assoc]
      have h2 : x / 256 ^ w = x % (256 ^ w * 256) / 256 ^ w + 256 * (x / (256 ^ w * 256)) := by
        conv => lhs; rw [← h1, h5]
        rw [Int.add_mul_ediv_left _ _ (by omega)]
      have b0 : 0 ≤ x % (256 ^ w * 256) := Int.emod_nonneg _ (by omega)
      have b1 : x % (256 ^ w * 256) < 256 ^ w * 256 := Int.emod_lt_of_pos _ (by omega)
      have b2 : x % (256 ^ w * 256) / 256 ^ w < 256 := Int.ediv_lt_of_lt_mul p (by rw [Int.mul_comm 256 (256 ^ w)]; exact b1)
      have b3 : 0 ≤ x % (256 ^ w * 256) / 256 ^ w := Int.ediv_nonneg b0 (by omega)
      omega
    simp only [bytes]
    rw [byt_nat hv, byt_nat hu, e2 v hv, e2 u hu, h, bytes_mod v u hv hu w e1]
theorem bytes_rd : ∀ {l : List Int}, Byts l → bytes (rdN l) l.length = l
  | [], _ => rfl
  | x :: l, h => by
    have hx := h x (by simp)
    have hl : Byts l := fun y hy => h y (by simp [hy])
    have e : rdN (x :: l) = x * 256 ^ l.length + rdN l := by
      have := rd_gen l (0 * 256 + x)
      simp only [rdN, List.foldl_cons] at this ⊢
      rw [this]; simp
    have b := rd_bound hl
    have p : (0 : Int) < 256 ^ l.length := Int.pow_pos (by omega)
    have r : 0 ≤ x * 256 ^ l.length := Int.mul_nonneg hx.1 (by omega)
    simp only [List.length_cons, bytes]
    have e1 : byt (rdN (x :: l)) l.length = x := by
      rw [byt_nat (by rw [e]; omega), e, Int.add_comm, Int.add_mul_ediv_right _ _ (by omega), Int.ediv_eq_zero_of_lt b.1 b.2]
      omega
    rw [e1, bytes_mod (rdN (x :: l)) (rdN l) (by rw [e]; omega) b.1 l.length (by rw [e, Int.add_comm, Int.add_mul_emod_self_right]), bytes_rd hl]
theorem or_step {n x : Int} (h0 : 0 ≤ n) (h1 : n < 1099511627776) (hx0 : 0 ≤ x) (hx : x < 256) :
    IntKind.wrap .i64 (((BitVec.ofInt (IntKind.bits .i64) (IntKind.wrap .i64 (n * 2 ^ min (Int.toNat (8 : Int)) (IntKind.bits .i64))) ||| BitVec.ofInt (IntKind.bits .i64) (IntKind.wrap .i64 x)).toNat : Nat) : Int) = n * 256 + x := by
  have e0 : (2 : Int) ^ min (Int.toNat (8 : Int)) (IntKind.bits .i64) = 256 := by decide
  have e1 : IntKind.wrap .i64 (n * 256) = n * 256 := w64 (by omega) (by omega)
  have e2 : IntKind.wrap .i64 x = x := w64 (by omega) (by omega)
  have b : IntKind.bits .i64 = 64 := rfl
  rw [e0, e1, e2, b, BitVec.toNat_or]
  obtain ⟨a, rfl⟩ := Int.eq_ofNat_of_zero_le h0
  obtain ⟨c, rfl⟩ := Int.eq_ofNat_of_zero_le hx0
  have t1 : (BitVec.ofInt 64 ((a : Int) * 256)).toNat = a * 256 := by
    rw [BitVec.toNat_ofInt]; omega
  have t2 : (BitVec.ofInt 64 (c : Int)).toNat = c := by
    rw [BitVec.toNat_ofInt]; omega
  have hor : a * 256 ||| c = a * 256 + c := by
    have := Nat.two_pow_add_eq_or_of_lt (i := 8) (b := c) (by omega) a
    rw [show (2 : Nat) ^ 8 = 256 from rfl] at this
    rw [Nat.mul_comm a 256, ← this]
  rw [t1, t2, hor, w64 (by omega) (by omega)]
  omega
abbrev Rs := List Int × Bool
def tk (n : Int) (s : Rs) : List Int × Rs := bif decide ((s.1.length : Int) < n) then ([], ([], true)) else (s.1.take n.toNat, (s.1.drop n.toNat, s.2))
def nm' (w : Int) (s : Rs) : Int × Rs := (rdN (tk w s).1, (tk w s).2)
def tx (s : Rs) : B × Rs := (bytesU (tk (nm' 2 s).1 (nm' 2 s).2).1, (tk (nm' 2 s).1 (nm' 2 s).2).2)
theorem take_eq (N : Nat) (n : Int) (hn : 0 ≤ n) (s : Rs) : msg_reader_take_m N n s.1 s.2 = some ((tk n s).1, (((tk n s).2.1, (tk n s).2.2), ())) := by
  simp only [msg_reader_take_m, tk]
  cases e : decide ((s.1.length : Int) < n)
  · have e := of_decide_eq_false e
    simp only [cond_false]
    rw [gd_t (by simp; omega), gd_t (by simp; omega)]
    have c1 : cut2 s.1 (0 : Int) n = s.1.take n.toNat := by simp [cut2]
    have c2 : cut2 s.1 n (s.1.length : Int) = s.1.drop n.toNat := by
      simp only [cut2, Int.toNat_natCast]
      exact List.take_of_length_le (by simp)
    rw [c1, c2]
  · rfl
theorem tk_byts {n : Int} {s : Rs} (h : Byts s.1) : Byts (tk n s).1 ∧ Byts (tk n s).2.1 := by
  unfold tk
  cases decide ((s.1.length : Int) < n)
  · exact ⟨h.take _, h.drop _⟩
  · exact ⟨byts_nil, byts_nil⟩
theorem tk_len (n : Int) (hn : 0 ≤ n) (s : Rs) : ((tk n s).1.length : Int) ≤ n := by
  unfold tk
  cases decide ((s.1.length : Int) < n)
  · simp only [cond_false, List.length_take]; omega
  · simpa using hn
theorem num_l0 (b : List Int) (sh : Bool) : ∀ (post pre : List Int) (n : Nat) (acc : Int), post.length < n → (pre ++ post).length ≤ 4 → Byts post → 0 ≤ acc → acc < 256 ^ pre.length →
    msg_reader_number_m_l0 NN n acc (pre ++ post) ((pre ++ post).length : Int) (pre.length : Int) b sh = some (post.foldl (fun n x => n * 256 + x) acc, ((b, sh), ()))
  | _, _, 0, _, h, _, _, _, _ => absurd h (Nat.not_lt_zero _)
  | [], pre, n + 1, acc, _, _, _, _, _ => by
    rw [msg_reader_number_m_l0_succ]
    simp only [msg_reader_number_m_l0_step, List.append_nil, Int.lt_irrefl, decide_false, cond_false]
    rfl
  | x :: post, pre, n + 1, acc, hn, hl, hb, h0, h1 => by
    simp only [List.length_cons] at hn
    have hx := hb x (by simp)
    have hp : pre.length ≤ 3 := by simp at hl; omega
    have h2 : (256 : Int) ^ pre.length ≤ 256 ^ 3 := by
      have := Nat.pow_le_pow_right (n := 256) (by omega) hp
      exact_mod_cast this
    have h3 : (256 : Int) ^ 3 = 16777216 := by decide
    have ho := or_step h0 (by omega) hx.1 hx.2
    rw [msg_reader_number_m_l0_succ]
    simp only [msg_reader_number_m_l0_step, lt_mid, in_mid, cond_true, rd_mid, ho]
    rw [gd_t rfl, gd_p (by decide), wr_mid (q := x) (by omega), app_mid (pre := pre) (q := x) (post := post)]
    refine num_l0 b sh post (pre ++ [x]) n (acc * 256 + x) (by omega) (by simpa using hl) (fun y hy => hb y (by simp [hy])) (by omega) ?_
    rw [List.length_append, List.length_cons, List.length_nil, Int.pow_succ]
    omega
theorem num_eq (w : Nat) (hw : w ≤ 4) (s : Rs) (hb : Byts s.1) : msg_reader_number_m NN (w : Int) s.1 s.2 = some ((nm' w s).1, (((nm' w s).2.1, (nm' w s).2.2), ())) := by
  have hl := tk_len (w : Int) (by omega) s
  have h := num_l0 (tk w s).2.1 (tk w s).2.2 (tk w s).1 [] NN 0 (by simp only [NN]; omega) (by simp; omega) (tk_byts hb).1 (by omega) (by simp)
  have hz : (([] : List Int).length : Int) = 0 := rfl
  simp only [List.nil_append, hz] at h
  simp only [msg_reader_number_m, take_eq NN (w : Int) (by omega) s, h]
  rfl
theorem nm_pos (w : Int) {s : Rs} (hb : Byts s.1) : 0 ≤ (nm' w s).1 := (rd_bound (tk_byts hb).1).1
theorem text_eq (s : Rs) (hb : Byts s.1) : msg_reader_text_m NN s.1 s.2 = some ((tx s).1, (((tx s).2.1, (tx s).2.2), ())) := by
  have h := num_eq 2 (by omega) s hb
  simp only [show ((2 : Nat) : Int) = 2 from rfl] at h
  simp only [msg_reader_text_m, h, take_eq NN (nm' 2 s).1 (nm_pos 2 hb) (nm' 2 s).2]
  rfl
theorem nm_byts {w : Int} {s : Rs} (hb : Byts s.1) : Byts (nm' w s).2.1 := (tk_byts hb).2
theorem tx_byts {s : Rs} (hb : Byts s.1) : Byts (tx s).2.1 := (tk_byts (nm_byts hb)).2
def finB (c : List Int) (m : Mg) (s : Rs) : Mg × Int × Int := bif s.2 then ((0, [], [], ([], []), [], [], 0), 0, 3) else bif vldB m then (m, (c.length : Int) - (s.1.length : Int), 0) else ((0, [], [], ([], []), [], [], 0), 0, 3)
theorem parse_p0 (c : List Int) (hc : c.length < 1000000000) (s : Rs) (hs : s.1.length ≤ c.length) (m : Mg) : msg_Parse_p0 NN c (0 : Int) [] [] [] [] [] [] (0 : Int) s.1 s.2 m.1 m.2.1 m.2.2.1 m.2.2.2.1.1 m.2.2.2.1.2 m.2.2.2.2.1 m.2.2.2.2.2.1 m.2.2.2.2.2.2 =
    some (((), (finB c m s).2), ((finB c m s).1.1, (finB c m s).1.2.1, (finB c m s).1.2.2.1, (finB c m s).1.2.2.2.1.1, (finB c m s).1.2.2.2.1.2, (finB c m s).1.2.2.2.2), ()) := by
  have e : (m.1, m.2.1, m.2.2.1, (m.2.2.2.1.1, m.2.2.2.1.2), m.2.2.2.2.1, m.2.2.2.2.2.1, m.2.2.2.2.2.2) = m := rfl
  have w : IntKind.wrap .i64 ((c.length : Int) - (s.1.length : Int)) = (c.length : Int) - (s.1.length : Int) := w64 (by omega) (by omega)
  simp only [msg_Parse_p0, e, Valid_eq, finB, w]
  cases s.2
  · simp only [cond_false]
    cases vldB m <;> rfl
  · rfl
def parseB (c : List Int) : Mg × Int × Int :=
  let s0 : Rs := (c, false)
  let k := (nm' 1 s0).1; let s1 := (nm' 1 s0).2
  let a := (tx s1).1; let s2 := (tx s1).2
  let b := (tx s2).1; let s3 := (tx s2).2
  let n := (nm' 4 s3).1; let s4 := (nm' 4 s3).2
  bif eqi k 1 then finB c (k, a, b, ([], []), [], [], n) s4 else
  bif eqi k 2 then finB c (k, a, [], ([], []), [], [], 0) s2 else
  bif eqi k 3 then finB c (k, [], [], (a, b), [], [], 0) s3 else
  bif eqi k 4 then finB c (k, [], [], ([], []), a, b, 0) s3 else
  bif eqi k 5 then finB c (k, [], [], ([], []), a, b, 0) s3 else
  bif eqi k 6 then finB c (k, [], [], (a, b), [], [], n) s4 else finB c (k, [], [], ([], []), [], [], 0) s1
theorem tk_le (n : Int) (s : Rs) : (tk n s).2.1.length ≤ s.1.length := by
  unfold tk
  cases decide ((s.1.length : Int) < n)
  · simp
  · simp
theorem nm_le (n : Int) (s : Rs) : (nm' n s).2.1.length ≤ s.1.length := tk_le n s
theorem tx_le (s : Rs) : (tx s).2.1.length ≤ s.1.length := Nat.le_trans (tk_le _ _) (nm_le 2 s)
theorem Parse_eq {c : List Int} (hb : Byts c) (hc : c.length < 1000000000) : msg_Parse NN c = some (parseB c) := by
  have n1 := num_eq 1 (by omega) (c, false) hb
  simp only [show ((1 : Nat) : Int) = 1 from rfl] at n1
  have b1 : Byts (nm' 1 (c, false)).2.1 := nm_byts hb
  have t1 := text_eq _ b1
  have b2 := tx_byts b1
  have t2 := text_eq _ b2
  have b3 := tx_byts b2
  have n4 := num_eq 4 (by omega) _ b3
  simp only [show ((4 : Nat) : Int) = 4 from rfl] at n4
  have l1 : (nm' 1 (c, false)).2.1.length ≤ c.length := nm_le 1 (c, false)
  have l2 := Nat.le_trans (tx_le (nm' 1 (c, false)).2) l1
  have l3 := Nat.le_trans (tx_le (tx (nm' 1 (c, false)).2).2) l2
  have l4 := Nat.le_trans (nm_le 4 (tx (tx (nm' 1 (c, false)).2).2).2) l3
  have p := fun s hs m => parse_p0 c hc s hs m
  simp only [msg_Parse, n1, parseB]
  cases eqi (nm' 1 (c, false)).1 1
  case true =>
    simp only [cond_true, t1, t2, n4]
    have h := p _ l4 ((nm' 1 (c, false)).1, (tx (nm' 1 (c, false)).2).1, (tx (tx (nm' 1 (c, false)).2).2).1, ([], []), [], [], (nm' 4 (tx (tx (nm' 1 (c, false)).2).2).2).1)
    simp only at h
    simp only [h]
  case false =>
  cases eqi (nm' 1 (c, false)).1 2
  case true =>
    simp only [cond_true, cond_false, t1]
    have h := p _ l2 ((nm' 1 (c, false)).1, (tx (nm' 1 (c, false)).2).1, [], ([], []), [], [], 0)
    simp only at h
    simp only [h]
  case false =>
  cases eqi (nm' 1 (c, false)).1 3
  case true =>
    simp only [cond_true, cond_false, t1, t2]
    have h := p _ l3 ((nm' 1 (c, false)).1, [], [], ((tx (nm' 1 (c, false)).2).1, (tx (tx (nm' 1 (c, false)).2).2).1), [], [], 0)
    simp only at h
    simp only [h]
  case false =>
  cases eqi (nm' 1 (c, false)).1 4
  case true =>
    simp only [cond_true, cond_false, t1, t2]
    have h := p _ l3 ((nm' 1 (c, false)).1, [], [], ([], []), (tx (nm' 1 (c, false)).2).1, (tx (tx (nm' 1 (c, false)).2).2).1, 0)
    simp only at h
    simp only [h]
  case false =>
  cases eqi (nm' 1 (c, false)).1 5
  case true =>
    simp only [cond_true, cond_false, t1, t2]
    have h := p _ l3 ((nm' 1 (c, false)).1, [], [], ([], []), (tx (nm' 1 (c, false)).2).1, (tx (tx (nm' 1 (c, false)).2).2).1, 0)
    simp only at h
    simp only [h]
  case false =>
  cases eqi (nm' 1 (c, false)).1 6
  case true =>
    simp only [cond_true, cond_false, t1, t2, n4]
    have h := p _ l4 ((nm' 1 (c, false)).1, [], [], ((tx (nm' 1 (c, false)).2).1, (tx (tx (nm' 1 (c, false)).2).2).1), [], [], (nm' 4 (tx (tx (nm' 1 (c, false)).2).2).2).1)
    simp only at h
    simp only [h]
  case false =>
    simp only [cond_false]
    have h := p _ l1 ((nm' 1 (c, false)).1, [], [], ([], []), [], [], 0)
    simp only at h
    simp only [h]
theorem tk_app (a b : List Int) (s : Bool) : tk (a.length : Int) (a ++ b, s) = (a, (b, s)) := by
  unfold tk
  rw [decide_eq_false (by simp; omega)]
  simp
theorem nm_app {v : Int} (w : Nat) (h0 : 0 ≤ v) (h1 : v < 256 ^ w) (b : List Int) (s : Bool) : nm' (w : Int) (bytes v w ++ b, s) = (v, (b, s)) := by
  have h := tk_app (bytes v w) b s
  rw [bytes_len] at h
  unfold nm'
  rw [h, rd_bytes w h0, Int.emod_eq_of_lt h0 h1]
theorem tx_app {a : B} (ha : a.length < 65536) (b : List Int) (s : Bool) : tx (textB a ++ b, s) = (a, (b, s)) := by
  have e : textB a ++ b = bytes (a.length : Int) 2 ++ (bytesI a ++ b) := by simp [textB]
  have h := nm_app (v := (a.length : Int)) 2 (by omega) (by have : (256 : Int) ^ 2 = 65536 := (by decide); omega) (bytesI a ++ b) s
  simp only [show ((2 : Nat) : Int) = 2 from rfl] at h
  have h2 := tk_app (bytesI a) b s
  rw [bytesI_len] at h2
  unfold tx
  rw [e, h]
  simp only [h2, UI]
theorem byts_t (s : B) : Byts (textB s) := (byts_n _ _).append (byts_I s)
theorem byts_m (m : Mg) : Byts (bytesM m) := by
  intro x hx
  rcases List.mem_cons.1 hx with rfl | hx
  · exact wrap_u8
  · have : Byts (bodyB m) := by
      unfold bodyB
      cases eqi m.1 1
      · cases eqi m.1 2
        · cases eqi m.1 3
          · cases eqi m.1 6
            · exact (byts_t _).append (byts_t _)
            · exact ((byts_t _).append (byts_t _)).append (byts_n _ _)
          · exact (byts_t _).append (byts_t _)
        · exact byts_t _
      · exact ((byts_t _).append (byts_t _)).append (byts_n _ _)
    exact this x hx
theorem fin_ok {c rest : List Int} {m : Mg} (h : vldB m = true) (hc : c = bytesM m ++ rest) : finB c m (rest, false) = (m, ((bytesM m).length : Int), 0) := by
  unfold finB
  simp only [cond_false, h, cond_true]
  rw [hc, List.length_append]
  congr 2
  omega
theorem k1 {k : Int} (h0 : 0 ≤ k) (h1 : k < 256) (b : List Int) : nm' 1 (IntKind.wrap .u8 k :: b, false) = (k, (b, false)) := by
  have e : IntKind.wrap .u8 k = k := by rw [IntKind.wrap_u8]; omega
  have h := tk_app [k] b false
  unfold nm'
  rw [e]
  rw [show (1 : Int) = (([k] : List Int).length : Int) from rfl, show k :: b = [k] ++ b from rfl, h]
  simp [rdN]
theorem parse_bytes {m : Mg} (h : vldB m = true) (rest : List Int) : parseB (bytesM m ++ rest) = (m, ((bytesM m).length : Int), 0) := by
  have p4 : (256 : Int) ^ 4 = 4294967296 := by decide
  have n4 := fun (v : Int) h0 h1 b s => nm_app (v := v) 4 h0 h1 b s
  simp only [show ((4 : Nat) : Int) = 4 from rfl] at n4
  rcases vld_cases h with ⟨k, v, n, rfl, h1, h2, h3, h4, h5⟩ | ⟨k, rfl, h1, h2⟩ | ⟨s, rfl, h1⟩ | ⟨k, e, rfl, hk, h1⟩ | ⟨s, n, rfl, h1, h2, h3⟩
  · have hc : bytesM (putMsg k v n) ++ rest = IntKind.wrap .u8 1 :: (textB k ++ (textB v ++ (bytes n 4 ++ rest))) := by
      show _ :: (textB k ++ textB v ++ bytes n 4 ++ rest) = _
      simp
    have f := fin_ok h hc.symm
    rw [hc]
    simp only [parseB, k1 (k := 1) (by omega) (by omega), tx_app (a := k) (by omega), tx_app (a := v) (by omega), n4 n h4 (by omega), eqi_self, cond_true]
    exact f
  · have hc : bytesM (delMsg k) ++ rest = IntKind.wrap .u8 2 :: (textB k ++ rest) := rfl
    have f := fin_ok h hc.symm
    have j1 : eqi (2 : Int) 1 = false := by decide
    rw [hc]
    simp only [parseB, k1 (k := 2) (by omega) (by omega), tx_app (a := k) (by omega), j1, eqi_self, cond_true, cond_false]
    exact f
  · have := spanV_len h1
    have hc : bytesM (dropMsg s) ++ rest = IntKind.wrap .u8 3 :: (textB s.1 ++ (textB s.2 ++ rest)) := by
      show _ :: (textB s.1 ++ textB s.2 ++ rest) = _
      simp
    have f := fin_ok h hc.symm
    have j1 : eqi (3 : Int) 1 = false := by decide
    have j2 : eqi (3 : Int) 2 = false := by decide
    rw [hc]
    simp only [parseB, k1 (k := 3) (by omega) (by omega), tx_app (a := s.1) (by omega), tx_app (a := s.2) (by omega), j1, j2, eqi_self, cond_true, cond_false]
    exact f
  · have := apartV_len h1
    have hc : bytesM (mv k e) ++ rest = IntKind.wrap .u8 k :: (textB e.1 ++ (textB e.2 ++ rest)) := by
      have : bodyB (mv k e) = textB e.1 ++ textB e.2 := by rcases hk with rfl | rfl <;> rfl
      show _ :: (bodyB (mv k e) ++ rest) = _
      rw [this]; simp
    have f := fin_ok h hc.symm
    have j : ∀ x : Int, x ≠ 4 → x ≠ 5 → eqi k x = false := fun x h1 h2 => eqi_ne (by rcases hk with rfl | rfl <;> omega)
    rw [hc]
    simp only [parseB, k1 (k := k) (by rcases hk with rfl | rfl <;> omega) (by rcases hk with rfl | rfl <;> omega), tx_app (a := e.1) (by omega), tx_app (a := e.2) (by omega), j 1 (by omega) (by omega), j 2 (by omega) (by omega), j 3 (by omega) (by omega), cond_false]
    rcases hk with rfl | rfl
    · exact f
    · exact f
  · have := spanV_len h1
    have hc : bytesM (stampMsg s n) ++ rest = IntKind.wrap .u8 6 :: (textB s.1 ++ (textB s.2 ++ (bytes n 4 ++ rest))) := by
      show _ :: (textB s.1 ++ textB s.2 ++ bytes n 4 ++ rest) = _
      simp
    have f := fin_ok h hc.symm
    have j1 : eqi (6 : Int) 1 = false := by decide
    have j2 : eqi (6 : Int) 2 = false := by decide
    have j3 : eqi (6 : Int) 3 = false := by decide
    have j4 : eqi (6 : Int) 4 = false := by decide
    have j5 : eqi (6 : Int) 5 = false := by decide
    rw [hc]
    simp only [parseB, k1 (k := 6) (by omega) (by omega), tx_app (a := s.1) (by omega), tx_app (a := s.2) (by omega), n4 n h2 (by omega), j1, j2, j3, j4, j5, eqi_self, cond_true, cond_false]
    exact f
theorem tk_inv {n : Int} (hn : 0 ≤ n) {s : Rs} (h : (tk n s).2.2 = false) : s.2 = false ∧ s.1 = (tk n s).1 ++ (tk n s).2.1 ∧ ((tk n s).1.length : Int) = n := by
  unfold tk at h ⊢
  cases e : decide ((s.1.length : Int) < n)
  · rw [e] at h
    have e := of_decide_eq_false e
    refine ⟨h, by simp, ?_⟩
    simp only [cond_false, List.length_take]; omega
  · rw [e] at h; cases h
theorem nm_inv (w : Nat) {s : Rs} (hb : Byts s.1) (h : (nm' w s).2.2 = false) : s.2 = false ∧ s.1 = bytes (nm' w s).1 w ++ (nm' w s).2.1 := by
  obtain ⟨h1, h2, h3⟩ := tk_inv (by omega) h
  refine ⟨h1, ?_⟩
  have hl : (tk (w : Int) s).1.length = w := by omega
  have := bytes_rd (tk_byts (n := (w : Int)) hb).1
  rw [hl] at this
  unfold nm'
  rw [this]; exact h2
theorem tx_inv {s : Rs} (hb : Byts s.1) (h : (tx s).2.2 = false) : s.2 = false ∧ s.1 = textB (tx s).1 ++ (tx s).2.1 := by
  have hb1 : Byts (nm' 2 s).2.1 := nm_byts hb
  obtain ⟨h1, h2, h3⟩ := tk_inv (nm_pos 2 hb) h
  have g := nm_inv 2 hb (by simp only [show ((2 : Nat) : Int) = 2 from rfl]; exact h1)
  simp only [show ((2 : Nat) : Int) = 2 from rfl] at g
  refine ⟨g.1, ?_⟩
  rw [g.2]
  unfold tx textB
  simp only
  rw [U_len, IU (tk_byts hb1).1, h3]
  conv => lhs; rw [h2]
  simp
theorem fin_inv {c : List Int} {m : Mg} {s : Rs} (h : (finB c m s).2.2 = 0) : s.2 = false ∧ vldB m = true ∧ finB c m s = (m, (c.length : Int) - (s.1.length : Int), 0) := by
  have e : finB c m s = bif s.2 then ((0, [], [], ([], []), [], [], 0), 0, 3) else bif vldB m then (m, (c.length : Int) - (s.1.length : Int), 0) else ((0, [], [], ([], []), [], [], 0), 0, 3) := rfl
  rw [e] at h ⊢
  cases e1 : s.2
  · rw [e1] at h
    cases e2 : vldB m
    · rw [e2] at h; cases h
    · exact ⟨rfl, rfl, rfl⟩
  · rw [e1] at h; cases h
theorem fin_err {c : List Int} {m : Mg} {s : Rs} (h : (finB c m s).2.2 ≠ 0) : finB c m s = ((0, [], [], ([], []), [], [], 0), 0, 3) := by
  unfold finB at h ⊢
  cases e : s.2
  · rw [e] at h
    simp only [cond_false] at h ⊢
    cases e2 : vldB m
    · rfl
    · rw [e2] at h; exact absurd rfl h
  · rfl
def parseC (c : List Int) (k : Int) (a b : B) (n : Int) (s1 s2 s3 s4 : Rs) : Mg × Int × Int :=
  bif eqi k 1 then finB c (k, a, b, ([], []), [], [], n) s4 else
  bif eqi k 2 then finB c (k, a, [], ([], []), [], [], 0) s2 else
  bif eqi k 3 then finB c (k, [], [], (a, b), [], [], 0) s3 else
  bif eqi k 4 then finB c (k, [], [], ([], []), a, b, 0) s3 else
  bif eqi k 5 then finB c (k, [], [], ([], []), a, b, 0) s3 else
  bif eqi k 6 then finB c (k, [], [], (a, b), [], [], n) s4 else finB c (k, [], [], ([], []), [], [], 0) s1
theorem parseC_cases {c : List Int} {k : Int} {a b : B} {n : Int} {s1 s2 s3 s4 : Rs}
    (F1 : s1.2 = false → c = bytes k 1 ++ s1.1) (F0 : 0 ≤ k)
    (F2 : s2.2 = false → s1.2 = false ∧ s1.1 = textB a ++ s2.1)
    (F3 : s3.2 = false → s2.2 = false ∧ s2.1 = textB b ++ s3.1)
    (F4 : s4.2 = false → s3.2 = false ∧ s3.1 = bytes n 4 ++ s4.1) :
    parseC c k a b n s1 s2 s3 s4 = ((0, [], [], ([], []), [], [], 0), 0, 3) ∨ ∃ m rest, vldB m = true ∧ c = bytesM m ++ rest := by
  unfold parseC
  have kw : bytes k 1 = [IntKind.wrap .u8 k] := by
    simp only [bytes]
    rw [byt_nat F0, IntKind.wrap_u8]; simp
  rw [kw] at F1
  have dec : ∀ (m : Mg) (s : Rs), finB c m s = ((0, [], [], ([], []), [], [], 0), 0, 3) ∨ (s.2 = false ∧ vldB m = true) := fun m s => by
    by_cases h : (finB c m s).2.2 = 0
    · exact .inr ⟨(fin_inv h).1, (fin_inv h).2.1⟩
    · exact .inl (fin_err h)
  cases e1 : eqi k 1
  case true =>
    rcases dec (k, a, b, ([], []), [], [], n) s4 with h | ⟨f1, f2⟩
    · exact .inl h
    · obtain ⟨g3, g3'⟩ := F4 f1
      obtain ⟨g2, g2'⟩ := F3 g3
      obtain ⟨g1, g1'⟩ := F2 g2
      have g0 := F1 g1
      rw [eqi_iff.1 e1] at g0 f2
      refine .inr ⟨_, s4.1, f2, ?_⟩
      show c = (IntKind.wrap .u8 1 :: (textB a ++ textB b ++ bytes n 4)) ++ s4.1
      rw [g0, g1', g2', g3']; simp
  case false =>
  cases e2 : eqi k 2
  case true =>
    rcases dec (k, a, [], ([], []), [], [], 0) s2 with h | ⟨f1, f2⟩
    · exact .inl h
    · obtain ⟨g1, g1'⟩ := F2 f1
      have g0 := F1 g1
      rw [eqi_iff.1 e2] at g0 f2
      refine .inr ⟨_, s2.1, f2, ?_⟩
      show c = (IntKind.wrap .u8 2 :: textB a) ++ s2.1
      rw [g0, g1']; simp
  case false =>
  cases e3 : eqi k 3
  case true =>
    rcases dec (k, [], [], (a, b), [], [], 0) s3 with h | ⟨f1, f2⟩
    · exact .inl h
    · obtain ⟨g2, g2'⟩ := F3 f1
      obtain ⟨g1, g1'⟩ := F2 g2
      have g0 := F1 g1
      rw [eqi_iff.1 e3] at g0 f2
      refine .inr ⟨_, s3.1, f2, ?_⟩
      show c = (IntKind.wrap .u8 3 :: (textB a ++ textB b)) ++ s3.1
      rw [g0, g1', g2']; simp
  case false =>
  cases e4 : eqi k 4
  case true =>
    rcases dec (k, [], [], ([], []), a, b, 0) s3 with h | ⟨f1, f2⟩
    · exact .inl h
    · obtain ⟨g2, g2'⟩ := F3 f1
      obtain ⟨g1, g1'⟩ := F2 g2
      have g0 := F1 g1
      rw [eqi_iff.1 e4] at g0 f2
      refine .inr ⟨_, s3.1, f2, ?_⟩
      show c = (IntKind.wrap .u8 4 :: (textB a ++ textB b)) ++ s3.1
      rw [g0, g1', g2']; simp
  case false =>
  cases e5 : eqi k 5
  case true =>
    rcases dec (k, [], [], ([], []), a, b, 0) s3 with h | ⟨f1, f2⟩
    · exact .inl h
    · obtain ⟨g2, g2'⟩ := F3 f1
      obtain ⟨g1, g1'⟩ := F2 g2
      have g0 := F1 g1
      rw [eqi_iff.1 e5] at g0 f2
      refine .inr ⟨_, s3.1, f2, ?_⟩
      show c = (IntKind.wrap .u8 5 :: (textB a ++ textB b)) ++ s3.1
      rw [g0, g1', g2']; simp
  case false =>
  cases e6 : eqi k 6
  case true =>
    rcases dec (k, [], [], (a, b), [], [], n) s4 with h | ⟨f1, f2⟩
    · exact .inl h
    · obtain ⟨g3, g3'⟩ := F4 f1
      obtain ⟨g2, g2'⟩ := F3 g3
      obtain ⟨g1, g1'⟩ := F2 g2
      have g0 := F1 g1
      rw [eqi_iff.1 e6] at g0 f2
      refine .inr ⟨_, s4.1, f2, ?_⟩
      show c = (IntKind.wrap .u8 6 :: (textB a ++ textB b ++ bytes n 4)) ++ s4.1
      rw [g0, g1', g2', g3']; simp
  case false =>
    rcases dec (k, [], [], ([], []), [], [], 0) s1 with h | ⟨f1, f2⟩
    · exact .inl h
    · have : vldB (k, [], [], ([], []), [], [], 0) = false := by
        simp only [vldB, e1, e2, e3, e4, e5, e6, Bool.or_self, cond_false]
      rw [this] at f2; cases f2
theorem parse_cases {c : List Int} (hb : Byts c) : parseB c = ((0, [], [], ([], []), [], [], 0), 0, 3) ∨ ∃ m rest, vldB m = true ∧ c = bytesM m ++ rest ∧ parseB c = (m, ((bytesM m).length : Int), 0) := by
  suffices hh : parseB c = ((0, [], [], ([], []), [], [], 0), 0, 3) ∨ ∃ m rest, vldB m = true ∧ c = bytesM m ++ rest by
    rcases hh with h | ⟨m, rest, h1, h2⟩
    · exact .inl h
    · exact .inr ⟨m, rest, h1, h2, by rw [h2]; exact parse_bytes h1 rest⟩
  have b1 : Byts (nm' 1 (c, false)).2.1 := nm_byts hb
  have b2 := tx_byts b1
  have b3 := tx_byts b2
  have F4 := fun h => nm_inv 4 b3 h
  simp only [show ((4 : Nat) : Int) = 4 from rfl] at F4
  exact parseC_cases (fun h => (nm_inv 1 (s := (c, false)) hb h).2) (nm_pos 1 (s := (c, false)) hb) (fun h => tx_inv b1 h) (fun h => tx_inv b2 h) F4
theorem bytes_small {m : Mg} (hm : Good m) : (bytesM m).length ≤ 60 := by
  obtain ⟨l1, l2, l3, l4⟩ := good_lens hm
  have ls : m.2.2.2.1.1.length ≤ 8 ∧ m.2.2.2.1.2.length ≤ 8 := by
    cases hm with
    | drop s hs => simp only [spanOk, Bool.and_eq_true, decide_eq_true_eq] at hs; exact ⟨hs.1.2, hs.2⟩
    | stamp s n hs => simp only [spanOk, Bool.and_eq_true, decide_eq_true_eq] at hs; exact ⟨hs.1.2, hs.2⟩
    | put k v n => simp
    | del k => simp
    | move e => simp
    | clone e => simp
  unfold bytesM bodyB
  cases eqi m.1 1 <;> cases eqi m.1 2 <;> cases eqi m.1 3 <;> cases eqi m.1 6 <;> simp only [cond_true, cond_false, List.length_cons, List.length_append, textB_len, bytes_len] <;> omega
def eqM (a b : Mg) : Bool := eqi a.1 b.1 && (eqs a.2.1 b.2.1 && (eqs a.2.2.1 b.2.2.1 && (eqs a.2.2.2.1.1 b.2.2.2.1.1 && (eqs a.2.2.2.1.2 b.2.2.2.1.2 && (eqs a.2.2.2.2.1 b.2.2.2.2.1 && (eqs a.2.2.2.2.2.1 b.2.2.2.2.2.1 && (eqi a.2.2.2.2.2.2 b.2.2.2.2.2.2 && true)))))))
theorem eqM_iff {a b : Mg} : eqM a b = true ↔ a = b := by
  obtain ⟨a0, a1, a2, ⟨a3, a4⟩, a5, a6, a7⟩ := a
  obtain ⟨b0, b1, b2, ⟨b3, b4⟩, b5, b6, b7⟩ := b
  simp only [eqM, Bool.and_eq_true, eqi_iff, eqs_iff, Prod.mk.injEq, and_true]
  constructor
  · rintro ⟨h0, h1, h2, h3, h4, h5, h6, h7⟩; exact ⟨h0, h1, h2, ⟨h3, h4⟩, h5, h6, h7⟩
  · rintro ⟨h0, h1, h2, ⟨h3, h4⟩, h5, h6, h7⟩; exact ⟨h0, h1, h2, h3, h4, h5, h6, h7⟩
end Ds
