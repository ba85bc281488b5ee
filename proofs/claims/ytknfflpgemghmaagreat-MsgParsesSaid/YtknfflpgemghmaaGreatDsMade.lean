/- What the reference's made messages are. -/
import Derived.Test.YtknfflpgemghmaaGreatDsPure
import Derived.Test.YtknfflpgemghmaaGreatDvPlain
import Derived.Test.YtknfflpgemghmaaGreatDvJoin
set_option linter.all false
namespace Ds
open Go Go.Dv
set_option maxRecDepth 100000
set_option linter.unusedVariables false

abbrev B := List UInt8
abbrev NN : Nat := 1000000

def paths : List B := [[97, 47], [98, 47], [97, 47, 98, 47], [99, 47], [100, 47]]
def tails : List B := [[1], [2, 0, 0], [2, 0, 1], [2, 0, 2], [3, 120]]
def keys : List B := (paths.take 4).flatMap fun p => tails.map fun t => p ++ t
def values : List B := [[], [120], [121, 121], [49, 50, 51, 52, 53, 54, 55, 56, 57, 48], [0, 255]]
/-- the ends of a made message's move -/
def ends : List (B × B) := paths.flatMap fun a => paths.filterMap fun b => bif (a.isPrefixOf b || b.isPrefixOf a) then none else some (a, b)
def spanOk (s : B × B) : Bool := (eqs s.2 [] || lts s.1 s.2) && decide (s.1.length ≤ 8) && decide (s.2.length ≤ 8)

/-- the looks of made messages -/
inductive Good : V_api_Msg → Prop where
  | put (k v : B) (n : Int) : k ∈ keys → v ∈ values → 0 ≤ n → n < 8 → Good ((1 : Int), k, v, (([] : B), ([] : B)), ([] : B), ([] : B), n)
  | del (k : B) : k ∈ keys → Good ((2 : Int), k, ([] : B), (([] : B), ([] : B)), ([] : B), ([] : B), (0 : Int))
  | drop (s : B × B) : spanOk s = true → Good ((3 : Int), ([] : B), ([] : B), (s.1, s.2), ([] : B), ([] : B), (0 : Int))
  | move (e : B × B) : e ∈ ends → Good ((4 : Int), ([] : B), ([] : B), (([] : B), ([] : B)), e.1, e.2, (0 : Int))
  | clone (e : B × B) : e ∈ ends → Good ((5 : Int), ([] : B), ([] : B), (([] : B), ([] : B)), e.1, e.2, (0 : Int))
  | stamp (s : B × B) (n : Int) : spanOk s = true → 0 ≤ n → n < 8 → Good ((6 : Int), ([] : B), ([] : B), (s.1, s.2), ([] : B), ([] : B), n)

theorem path_ok {n : Int} (h0 : 0 ≤ n) (h1 : n < 256) : ∃ p, ref05_Path NN n = some p ∧ p ∈ paths := by
  obtain ⟨p, h, hp⟩ := u8_opt (f := ref05_Path NN) (p := fun x => paths.contains x) (by decide +kernel) h0 h1
  exact ⟨p, h, by simpa using hp⟩
theorem key_ok {n : Int} (h0 : 0 ≤ n) (h1 : n < 256) : ∃ p, ref05_Key NN n = some p ∧ p ∈ keys := by
  obtain ⟨p, h, hp⟩ := u8_opt (f := ref05_Key NN) (p := fun x => keys.contains x) (by decide +kernel) h0 h1
  exact ⟨p, h, by simpa using hp⟩
theorem value_ok {n : Int} (h0 : 0 ≤ n) (h1 : n < 256) : ∃ p, ref05_Value NN n = some p ∧ p ∈ values := by
  obtain ⟨p, h, hp⟩ := u8_opt (f := ref05_Value NN) (p := fun x => values.contains x) (by decide +kernel) h0 h1
  exact ⟨p, h, by simpa using hp⟩

/-- the eight fields as one message -/
def msgOf (v : Int × B × B × B × B × B × B × Int) : V_api_Msg := (v.1, v.2.1, v.2.2.1, (v.2.2.2.1, v.2.2.2.2.1), v.2.2.2.2.2.1, v.2.2.2.2.2.2.1, v.2.2.2.2.2.2.2)

theorem p1_ok {k a b lo hi : B} {x0 x1 x2 x3 x4 x5 : Int} {d0 : Int} {d1 d2 d3 d4 d5 d6 : B} {d7 : Int} (hk : k ∈ keys) (he : (a, b) ∈ ends) (hs : spanOk (lo, hi) = true)
    (h2 : 0 ≤ x2 ∧ x2 < 256) (h5 : 0 ≤ x5 ∧ x5 < 256) (h0 : 0 ≤ x0 ∧ x0 < 256) :
    ∃ r, ref05_Made_p1 NN k a b x0 x1 x2 x3 x4 x5 d0 d1 d2 d3 d4 d5 d6 d7 lo hi = some r ∧ Good (msgOf r.2.1) ∧ (Int.tmod x0 6 = 3 → r.2.1.1 = (4 : Int)) := by
  obtain ⟨v, hv, hvm⟩ := value_ok h2.1 h2.2
  have hn := tmod_b h5.1 (show (0 : Int) < 8 by decide)
  have hw : IntKind.wrap .i64 (Int.tmod x5 (8 : Int)) = Int.tmod x5 8 := w64 (by omega) (by omega)
  simp only [ref05_Made_p1, hv, hw]
  have no : ∀ {a : Int}, a ≠ 3 → eqi (Int.tmod x0 6) a = true → Int.tmod x0 6 = 3 → False := fun h1 h2 h3 => h1 ((eqi_iff.1 h2).symm.trans h3)
  cases q0 : eqi (Int.tmod x0 6) 0
  case true => exact ⟨_, rfl, .put k v _ hk hvm hn.1 hn.2, fun h => (no (by decide) q0 h).elim⟩
  cases q1 : eqi (Int.tmod x0 6) 1
  case true => exact ⟨_, rfl, .del k hk, fun h => (no (by decide) q1 h).elim⟩
  cases q2 : eqi (Int.tmod x0 6) 2
  case true => exact ⟨_, rfl, .drop (lo, hi) hs, fun h => (no (by decide) q2 h).elim⟩
  cases q3 : eqi (Int.tmod x0 6) 3
  case true => exact ⟨_, rfl, .move (a, b) he, fun _ => rfl⟩
  cases q4 : eqi (Int.tmod x0 6) 4
  case true => exact ⟨_, rfl, .clone (a, b) he, fun h => (no (by decide) q4 h).elim⟩
  exact ⟨_, rfl, .stamp (lo, hi) _ hs hn.1 hn.2, fun h => by rw [h] at q3; cases q3⟩

theorem p0_ok {k lo hi : B} {x0 x1 x2 x3 x4 x5 : Int} {d0 : Int} {d1 d2 d3 d4 d5 d6 : B} {d7 : Int} (hk : k ∈ keys) (hs : spanOk (lo, hi) = true)
    (h0 : 0 ≤ x0 ∧ x0 < 256) (h1 : 0 ≤ x1 ∧ x1 < 256) (h2 : 0 ≤ x2 ∧ x2 < 256) (h3 : 0 ≤ x3 ∧ x3 < 256) (h5 : 0 ≤ x5 ∧ x5 < 256) :
    ∃ r, ref05_Made_p0 NN k x0 x1 x2 x3 x4 x5 d0 d1 d2 d3 d4 d5 d6 d7 lo hi = some r ∧ Good (msgOf r.2.1) ∧ (Int.tmod x0 6 = 3 → r.2.1.1 = (4 : Int)) := by
  obtain ⟨p, hp, hpm⟩ := path_ok h1.1 h1.2
  obtain ⟨q, hq, hqm⟩ := path_ok h3.1 h3.2
  have hb : (paths.all fun p => paths.all fun q => okO (ref02_Begins NN p q) fun b => okO (ref02_Begins NN q p) fun c => 
      bif b || c then ends.contains (p, bif eqs p [100, 47] then [99, 47] else [100, 47]) else ends.contains (p, q)) = true := by decide +kernel
  obtain ⟨b, hb1, hb⟩ := okO_some (List.all_eq_true.1 (List.all_eq_true.1 hb p hpm) q hqm)
  obtain ⟨c, hc1, hb⟩ := okO_some hb
  have go : ∀ e : B, (p, e) ∈ ends → ∃ r, (match ref05_Made_p1 NN k p e x0 x1 x2 x3 x4 x5 d0 d1 d2 d3 d4 d5 d6 d7 lo hi with
      | some r11 => (some ((), ((r11.2.1.1, (r11.2.1.2.1, (r11.2.1.2.2.1, (r11.2.1.2.2.2.1, (r11.2.1.2.2.2.2.1, (r11.2.1.2.2.2.2.2.1, (r11.2.1.2.2.2.2.2.2.1, r11.2.1.2.2.2.2.2.2.2))))))), ())))
      | none => none) = some r ∧ Good (msgOf r.2.1) ∧ (Int.tmod x0 6 = 3 → r.2.1.1 = (4 : Int)) := by
    intro e he
    obtain ⟨r, h1, h2⟩ := p1_ok (lo := lo) (hi := hi) (x1 := x1) (x3 := x3) (x4 := x4) (d0 := d0) (d1 := d1) (d2 := d2) (d3 := d3) (d4 := d4) (d5 := d5) (d6 := d6) (d7 := d7) hk he hs h2 h5 h0
    exact ⟨_, by rw [h1], h2⟩
  simp only [ref05_Made_p0, hp, hq, hb1, hc1]
  cases b <;> cases c <;> cases e : eqs p [100, 47] <;> simp only [e, Bool.or_true, Bool.or_false, Bool.true_or, cond_true, cond_false, List.contains_iff_mem] at hb ⊢ <;> exact go _ hb

theorem made_int {x0 x1 x2 x3 x4 x5 : Int} (h0 : 0 ≤ x0 ∧ x0 < 256) (h1 : 0 ≤ x1 ∧ x1 < 256) (h2 : 0 ≤ x2 ∧ x2 < 256) (h3 : 0 ≤ x3 ∧ x3 < 256) (h4 : 0 ≤ x4 ∧ x4 < 256) (h5 : 0 ≤ x5 ∧ x5 < 256) :
    ∃ m, ref05_Made NN ((x0, x1, x2, x3, x4, x5) : Int × Int × Int × Int × Int × Int) = some m ∧ Good m ∧ (Int.tmod x0 6 = 3 → m.1 = (4 : Int)) := by
  obtain ⟨k, hk, hkm⟩ := key_ok h1.1 h1.2
  obtain ⟨l, hl, hlm⟩ := key_ok h3.1 h3.2
  obtain ⟨p, hp, hpm⟩ := path_ok h1.1 h1.2
  have hpre : (paths.all fun p => okO (ref02_Prefix NN p) fun s => spanOk s) = true := by decide +kernel
  have hone : (keys.all fun k => okO (ref02_One NN k) fun s => spanOk s) = true := by decide +kernel
  have hkey : (keys.all fun k => spanOk (k, [])) = true := by decide +kernel
  have hmm : (keys.all fun k => keys.all fun l => bif eqs k l then true else spanOk (bif lts k l || eqs k l then k else l, bif !(lts k l) then k else l)) = true := by decide +kernel
  obtain ⟨s, hs, hso⟩ := okO_some (List.all_eq_true.1 hpre p hpm)
  obtain ⟨o, ho, hoo⟩ := okO_some (List.all_eq_true.1 hone k hkm)
  have hke := List.all_eq_true.1 hkey k hkm
  have hml := List.all_eq_true.1 (List.all_eq_true.1 hmm k hkm) l hlm
  have go : ∀ lo hi : B, spanOk (lo, hi) = true → ∃ m, (match ref05_Made_p0 NN k x0 x1 x2 x3 x4 x5 (0 : Int) ([] : List UInt8) ([] : List UInt8) ([] : List UInt8) ([] : List UInt8) ([] : List UInt8) ([] : List UInt8) (0 : Int) lo hi with
      | some r17 => (some (r17.2.1.1, (r17.2.1.2.1, (r17.2.1.2.2.1, ((r17.2.1.2.2.2.1, r17.2.1.2.2.2.2.1), r17.2.1.2.2.2.2.2)))))
      | none => none) = some m ∧ Good m ∧ (Int.tmod x0 6 = 3 → m.1 = (4 : Int)) := by
    intro lo hi h
    obtain ⟨r, e1, e2⟩ := p0_ok (x4 := x4) (d0 := 0) (d1 := []) (d2 := []) (d3 := []) (d4 := []) (d5 := []) (d6 := []) (d7 := 0) hkm h h0 h1 h2 h3 h5
    exact ⟨msgOf r.2.1, by rw [e1]; rfl, e2⟩
  simp only [ref05_Made, hk, hl, hp, hs, ho]
  cases eqi (Int.tmod x4 4) 0
  case true => exact go _ _ hso
  cases eqi (Int.tmod x4 16) 1
  case true => exact go _ _ hke
  cases eqi (Int.tmod x4 16) 5
  case true => exact go _ _ (by decide)
  cases e : eqs k l
  case true => exact go _ _ hoo
  rw [e] at hml
  exact go _ _ (by simpa [e] using hml)
theorem made_ok3 {x : V_ref05_Raw} (hx : okT T_ref05_Raw x) : ∃ m, ref05_Made NN x = some m ∧ Good m ∧ (Int.tmod x.1 6 = 3 → m.1 = (4 : Int)) :=
  made_int (u8_of_wf hx.1) (u8_of_wf hx.2.1) (u8_of_wf hx.2.2.1) (u8_of_wf hx.2.2.2.1) (u8_of_wf hx.2.2.2.2.1) (u8_of_wf hx.2.2.2.2.2)
theorem made_ok {x : V_ref05_Raw} (hx : okT T_ref05_Raw x) : ∃ m, ref05_Made NN x = some m ∧ Good m := by
  obtain ⟨m, h1, h2, _⟩ := made_ok3 hx
  exact ⟨m, h1, h2⟩
end Ds
