/- Tables of the reference, as in law09. -/
import Derived.Test.YtpgikdaeicidaaaGreatDoorDsPure
import Derived.Test.YtpgikdaeicidaaaGreatDoorDsMsgs
import Derived.Test.YtpgikdaeicidaaaGreatDoorDvD
set_option linter.all false
namespace Ds
open Go Go.Dv
set_option maxRecDepth 100000
set_option linter.unusedVariables false
theorem xbj (N : Nat) (p : Pr) : ∀ (post pre : List Pr) (n : Nat) (d : Bool) (out : List Pr), post.length < n → (pre ++ post).length < 1000000 → out.length + 2 * post.length < 1000000 →
    z8m N n (pre ++ post) d (pre.length : Int) p.1 p.2.1 p.2.2 out = some (((), ((), zb9 p d post)), ((p.1, (p.2.1, p.2.2)), (out ++ zms p d post, ())))
  | [], pre, n + 1, d, out, _, _, _ => by
    show z5r N (fun b0 b1 b2 b3 b4 b5 b6 => z8m N n b0 b1 b2 b3 b4 b5 b6) (pre ++ []) d (pre.length : Int) p.1 p.2.1 p.2.2 out = _
    simp only [z5r, List.append_nil, Int.lt_irrefl, decide_false, cond_false, zb9, zms]
    try rfl
  | [], pre, 0, d, out, h, _, _ => absurd h (Nat.not_lt_zero _)
  | q :: post, pre, 0, d, out, h, _, _ => absurd h (Nat.not_lt_zero _)
  | q :: post, pre, n + 1, d, out, hn, hl, ho => by
    have ih := fun d out => xbj N p post (pre ++ [q]) n d out (by simp at hn; omega) (by simpa using hl)
    have hl' : pre.length < 9223372036854775807 := by simp at hl; omega
    have p1 : ∀ (d : Bool) (out : List Pr), out.length < 1000000 → z8l N (pre ++ q :: post) d (pre.length : Int) p.1 p.2.1 p.2.2 out =
        some (((pre ++ q :: post), ((), ((), (d, (pre.length : Int))))), ((p.1, (p.2.1, p.2.2)), (out ++ (bif !(eqs q.1 p.1) then [q] else []), ()))) := by
      intro d out ho
      simp only [z8l, z7m, z3n]
      rw [gd_t rfl]
      cases e : eqs q.1 p.1
      · have e' : eqs q.1 p.1 = false := e
        simp only [e', Bool.not_false, cond_true]
        rw [gd_t rfl, gd_t (z8e (by first | omega | (simp; omega)) (by omega))]
        try rfl
      · have e' : eqs q.1 p.1 = true := e
        simp only [e', Bool.not_true, cond_false, List.append_nil]
        try rfl
    have go : ∀ (d : Bool) (out : List Pr), out.length + 1 + 2 * post.length < 1000000 → (match z8l N (pre ++ q :: post) d (pre.length : Int) p.1 p.2.1 p.2.2 out with
        | some r4 => (let x5 := (IntKind.wrap .i64 (r4.1.2.2.2.2 + (1 : Int)))
          z8m N n r4.1.1 r4.1.2.2.2.1 x5 r4.2.1.1 r4.2.1.2.1 r4.2.1.2.2 r4.2.2.1)
        | none => none) = some (((), ((), zb9 p d post)), ((p.1, (p.2.1, p.2.2)), ((out ++ (bif !(eqs q.1 p.1) then [q] else [])) ++ zms p d post, ()))) := by
      intro d out ho
      rw [p1 d out (by omega)]
      simp only
      rw [zjw (q := q) hl', z2j]
      exact ih d _ (by cases eqs q.1 p.1 <;> simp <;> omega)
    show z5r N (fun b0 b1 b2 b3 b4 b5 b6 => z8m N n b0 b1 b2 b3 b4 b5 b6) _ _ _ _ _ _ _ = _
    simp only [z5r, zk3, z7m, cond_true, z3n]
    rw [gd_t rfl]
    simp only [List.length_cons] at ho
    cases d
    all_goals simp only [Bool.not_true, Bool.not_false, cond_true, cond_false]
    · cases e : lts q.1 p.1
      · have e' : lts q.1 p.1 = false := e
        rw [gd_t (z8e (by omega) (by omega))]
        refine (go true (out ++ [p]) (by simp; omega)).trans ?_
        simp only [zb9, zms, e', Bool.not_false, Bool.and_self, cond_true, Bool.or_true]
        simp [List.append_assoc]
      · have e' : lts q.1 p.1 = true := e
        refine (go false out (by omega)).trans ?_
        simp only [zb9, zms, e', Bool.not_true, Bool.not_false, Bool.and_false, cond_false, Bool.or_false]
        simp [List.append_assoc]
    · refine (go true out (by omega)).trans ?_
      simp only [zb9, zms, Bool.not_true, Bool.false_and, cond_false, Bool.true_or]
      simp [List.append_assoc]
theorem xec (N : Nat) (p : Pr) (t : List Pr) (hN : t.length < N) (ht : t.length < 100000) : y6w N t p = some (yuk p false t) := by
  have h := xbj N p t [] N false [] hN (by simpa using (by omega)) (by simp; omega)
  have hl := yd0 p t false
  have e := x46 p t false
  rw [e]
  have h' : z8m N N t false (0 : Int) p.1 p.2.1 p.2.2 [] = _ := h
  simp only [y6w, h']
  cases ed : zb9 p false t
  · simp only [Bool.not_false, cond_true, List.nil_append, cond_false]
    rw [gd_t (z8e (by simp [ed] at hl; omega) (by omega))]
    try rfl
  · simp only [Bool.not_true, cond_true, List.nil_append, cond_false, List.append_nil]
def tkeys : List B := ([[97, 47], [98, 47], [97, 47, 98, 47], [99, 47]] : List B).flatMap (fun p => tails.map fun t => p ++ t) ++ [[1], [5, 48, 48, 48, 48, 48, 48, 48, 49, 47, 1], [6, 97, 47, 1], [97, 47, 98, 47, 99, 47, 1]]
def tvals : List B := [[], [118], [119, 120], [120, 121, 122]]
def yhw (p : Pr) : Prop := p.1 ∈ tkeys ∧ p.2.1 ∈ tvals ∧ (0 : Int) ≤ p.2.2 ∧ (show Int from p.2.2) < (4 : Int)
theorem x6y {n : Int} (h0 : 0 ≤ n) (h1 : n < 256) : ∃ p, ztj NN n = some p ∧ p ∈ tkeys := by
  obtain ⟨p, h, hp⟩ := x1q (f := ztj NN) (p := fun x => tkeys.contains x) (by decide +kernel) h0 h1
  exact ⟨p, h, by simpa using hp⟩
theorem xa3 {a b c : Int} (ha : 0 ≤ a ∧ a < 256) (hb : 0 ≤ b ∧ b < 256) (hc : 0 ≤ c ∧ c < 256) : ∃ p, zn5 NN ((a, b, c) : Int × Int × Int) = some p ∧ yhw p := by
  obtain ⟨k, hk, hkm⟩ := x6y ha.1 ha.2
  have hv : ((List.range 256).all fun (n : Nat) => inB (Int.tmod (n : Int) (4 : Int)) 4 && tvals.contains (rdL tvals (Int.tmod (n : Int) (4 : Int)) ([] : B))) = true := by decide +kernel
  have hv := xb9 (p := fun n => inB (Int.tmod n (4 : Int)) 4 && tvals.contains (rdL tvals (Int.tmod n (4 : Int)) ([] : B))) hv hb.1 hb.2
  simp only [Bool.and_eq_true] at hv
  have hn := xbb hc.1 (show (0 : Int) < 4 by decide)
  simp only [zn5, hk]
  rw [w64 (by omega) (by omega)]
  have e : (List.length ([([] : List UInt8), ([118] : List UInt8), ([119, 120] : List UInt8), ([120, 121, 122] : List UInt8)] : List (List UInt8))) = 4 := rfl
  rw [e, gd_t hv.1]
  exact ⟨_, rfl, hkm, (List.contains_iff_mem (α := B)).1 hv.2, hn.1, hn.2⟩
theorem xcv {x : V2} (hx : okT z15 x) : ∃ p, zn5 NN x = some p ∧ yhw p :=
  xa3 (z6k hx.1) (z6k hx.2.1) (z6k hx.2.2)
theorem y3b {k : B} (hk : k ∈ tkeys) : 1 ≤ k.length ∧ k.length ≤ 12 := by
  have h : (tkeys.all fun k => Nat.ble 1 k.length && Nat.ble k.length 12) = true := by decide +kernel
  have := List.all_eq_true.1 h k hk
  simp only [Bool.and_eq_true] at this
  exact ⟨Nat.le_of_ble_eq_true this.1, Nat.le_of_ble_eq_true this.2⟩
theorem yv7 {k : B} (hk : k ∈ tvals) : k.length ≤ 3 := by
  have h : (tvals.all fun k => Nat.ble k.length 3) = true := by decide +kernel
  exact Nat.le_of_ble_eq_true (List.all_eq_true.1 h k hk)
theorem x4j {xs : List V2} (hx : okT (.list z15) xs) : ∃ t, zn6 NN xs = some t ∧ Ok 40 12 t ∧ ∀ p ∈ t, yhw p := by
  have hl : (xs.length : Int) ≤ 140737488351232 := by
    have : xs.length * 3 ≤ 0x7ffffffff000 := hx.1
    omega
  have hmem : ∀ i : Int, 0 ≤ i → i < (xs.length : Int) → okT z15 (rdL (α := V2) xs i y39) := by
    intro i h0 h1
    obtain ⟨h, e⟩ := x9c xs i y39 h0 h1
    rw [e]
    exact hx.2 i.toNat _ (List.getElem?_eq_getElem h)
  have loop := yvn (A := (((List V2) × (Unit × Int)) × ((List Z0) × Unit))) (R := ((Unit × ((List Z0) × Unit))))
    (f := fun rec v => zda NN (fun b0 b1 b2 => rec ((b0, ((), b1)), (b2, ()))) v.1.1 v.1.2.2 v.2.1)
    (fun v => v.1.1 = xs ∧ 0 ≤ v.1.2.2 ∧ v.1.2.2 ≤ 40 ∧ (v.2.1.length : Int) ≤ v.1.2.2 ∧ Srt v.2.1 ∧ ∀ p ∈ v.2.1, yhw p)
    (fun r => (r.2.1.length : Int) ≤ 40 ∧ Srt r.2.1 ∧ ∀ p ∈ r.2.1, yhw p) (fun v => (40 - v.1.2.2).toNat)
    (by
      rintro rec ⟨⟨b0, u, i⟩, out, _⟩ ⟨rfl, h3, h4, h5, hs, h6⟩ ih
      simp only at h3 h4 h5 h6 hs hl hmem
      simp only [zda]
      cases e1 : decide (i < (b0.length : Int))
      · exact ⟨_, rfl, by simp only; omega, hs, h6⟩
      cases e2 : decide (i < (40 : Int))
      · exact ⟨_, rfl, by simp only; omega, hs, h6⟩
      have e1 := of_decide_eq_true e1
      have e2 := of_decide_eq_true e2
      obtain ⟨p, hp, gp⟩ := xcv (hmem i h3 e1)
      simp only [cond_true]
      rw [gd_t (z6t h3 e1), hp]
      simp only
      have hlen := x4l p out
      rw [xec NN p out (by simp only [NN]; omega) (by omega), yuj p hs]
      simp only
      rw [w64 (by omega) (by omega)]
      exact ih ((b0, (), i + 1), insT p out, ()) ⟨rfl, by simp only; omega, by simp only; omega, by simp only; omega, hs.insT p, fun x hx => by
        rcases insT_mem hx with rfl | h
        · exact gp
        · exact h6 _ h⟩ (by simp only; omega))
    NN ((xs, (), 0), [], ()) ⟨rfl, Int.le_refl _, (by simp only; omega), Int.le_refl _, List.Pairwise.nil, fun m h => by simp at h⟩ (by simp only [NN]; omega)
  obtain ⟨r, h1, h2, h3, h4⟩ := loop
  exact ⟨r.2.1, by simp only [zn6, zql, h1], ⟨h3, by omega, fun p hp => (y3b (h4 p hp).1).2⟩, h4⟩
end Ds
