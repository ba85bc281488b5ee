/- Tables of the reference: insertion by the key. -/
import Derived.Test.YtknfflpgemghmaaGreatDsMade
import Derived.Test.YtknfflpgemghmaaGreatDsOrd
set_option linter.all false
namespace Ds
open Go Go.Dv
set_option maxRecDepth 100000
set_option linter.unusedVariables false

abbrev Pr := V_api_Pair

/-- whether a span has a key -/
def hasB (s : V_api_Span) (k : B) : Bool := bif !(lts k s.1) then (bif eqs s.2 [] then true else lts k s.2) else false

theorem le_eq (a b : B) : (lts a b || eqs a b) = !(lts b a) := by
  rcases lts_tri a b with h | rfl | h
  · rw [h, lts_asymm h]; rfl
  · rw [eqs_self, lts_irrefl]; rfl
  · rw [h, lts_asymm h, eqs_ne (lts_ne h).symm]; rfl

/-- insertion by the key, as the reference does it -/
def putGo (p : Pr) : Bool → List Pr → List Pr
  | d, [] => bif d then [] else [p]
  | d, q :: t => (bif !d && !(lts q.1 p.1) then [p] else []) ++ ((bif !(eqs q.1 p.1) then [q] else []) ++ putGo p (d || !(lts q.1 p.1)) t)

def putDone (p : Pr) : Bool → List Pr → Bool
  | d, [] => d
  | d, q :: t => putDone p (d || !(lts q.1 p.1)) t

def putMid (p : Pr) : Bool → List Pr → List Pr
  | d, [] => []
  | d, q :: t => (bif !d && !(lts q.1 p.1) then [p] else []) ++ ((bif !(eqs q.1 p.1) then [q] else []) ++ putMid p (d || !(lts q.1 p.1)) t)

theorem putGo_eq (p : Pr) : ∀ (t : List Pr) (d : Bool), putGo p d t = putMid p d t ++ (bif putDone p d t then [] else [p])
  | [], d => by cases d <;> rfl
  | q :: t, d => by simp only [putGo, putMid, putDone, putGo_eq p t]; simp [List.append_assoc]

theorem put_l0 (N : Nat) (p : Pr) : ∀ (post pre : List Pr) (n : Nat) (d : Bool) (out : List Pr), post.length < n → (pre ++ post).length < 1000000 → out.length + 2 * post.length < 1000000 →
    ref05_Insert_l0 N n (pre ++ post) d (pre.length : Int) p.1 p.2.1 p.2.2 out = some (((), ((), putDone p d post)), ((p.1, (p.2.1, p.2.2)), (out ++ putMid p d post, ())))
  | [], pre, n + 1, d, out, _, _, _ => by
    show ref05_Insert_l0_step N (fun b0 b1 b2 b3 b4 b5 b6 => ref05_Insert_l0 N n b0 b1 b2 b3 b4 b5 b6) (pre ++ []) d (pre.length : Int) p.1 p.2.1 p.2.2 out = _
    simp only [ref05_Insert_l0_step, List.append_nil, Int.lt_irrefl, decide_false, cond_false, putDone, putMid]
    try rfl
  | [], pre, 0, d, out, h, _, _ => absurd h (Nat.not_lt_zero _)
  | q :: post, pre, 0, d, out, h, _, _ => absurd h (Nat.not_lt_zero _)
  | q :: post, pre, n + 1, d, out, hn, hl, ho => by
    have ih := fun d out => put_l0 N p post (pre ++ [q]) n d out (by simp at hn; omega) (by simpa using hl)
    have hl' : pre.length < 9223372036854775807 := by simp at hl; omega
    have p1 : ∀ (d : Bool) (out : List Pr), out.length < 1000000 → ref05_Insert_p1 N (pre ++ q :: post) d (pre.length : Int) p.1 p.2.1 p.2.2 out =
        some (((pre ++ q :: post), ((), ((), (d, (pre.length : Int))))), ((p.1, (p.2.1, p.2.2)), (out ++ (bif !(eqs q.1 p.1) then [q] else []), ()))) := by
      intro d out ho
      simp only [ref05_Insert_p1, in_mid, rd_mid]
      rw [gd_t rfl]
      cases e : eqs q.1 p.1
      · have e' : eqs q.1 p.1 = false := e
        simp only [e', Bool.not_false, cond_true]
        rw [gd_t rfl, gd_t (fits_p (by first | omega | (simp; omega)) (by omega))]
        try rfl
      · have e' : eqs q.1 p.1 = true := e
        simp only [e', Bool.not_true, cond_false, List.append_nil]
        try rfl
    have go : ∀ (d : Bool) (out : List Pr), out.length + 1 + 2 * post.length < 1000000 → (match ref05_Insert_p1 N (pre ++ q :: post) d (pre.length : Int) p.1 p.2.1 p.2.2 out with
        | some r4 => (let x5 := (IntKind.wrap .i64 (r4.1.2.2.2.2 + (1 : Int)))
          ref05_Insert_l0 N n r4.1.1 r4.1.2.2.2.1 x5 r4.2.1.1 r4.2.1.2.1 r4.2.1.2.2 r4.2.2.1)
        | none => none) = some (((), ((), putDone p d post)), ((p.1, (p.2.1, p.2.2)), ((out ++ (bif !(eqs q.1 p.1) then [q] else [])) ++ putMid p d post, ()))) := by
      intro d out ho
      rw [p1 d out (by omega)]
      simp only
      rw [wr_mid (q := q) hl', app_mid]
      exact ih d _ (by cases eqs q.1 p.1 <;> simp <;> omega)
    show ref05_Insert_l0_step N (fun b0 b1 b2 b3 b4 b5 b6 => ref05_Insert_l0 N n b0 b1 b2 b3 b4 b5 b6) _ _ _ _ _ _ _ = _
    simp only [ref05_Insert_l0_step, lt_mid, in_mid, cond_true, rd_mid, le_eq]
    rw [gd_t rfl]
    simp only [List.length_cons] at ho
    cases d
    all_goals simp only [Bool.not_true, Bool.not_false, cond_true, cond_false]
    · cases e : lts q.1 p.1
      · have e' : lts q.1 p.1 = false := e
        rw [gd_t (fits_p (by omega) (by omega))]
        refine (go true (out ++ [p]) (by simp; omega)).trans ?_
        simp only [putDone, putMid, e', Bool.not_false, Bool.and_self, cond_true, Bool.or_true]
        simp [List.append_assoc]
      · have e' : lts q.1 p.1 = true := e
        refine (go false out (by omega)).trans ?_
        simp only [putDone, putMid, e', Bool.not_true, Bool.not_false, Bool.and_false, cond_false, Bool.or_false]
        simp [List.append_assoc]
    · refine (go true out (by omega)).trans ?_
      simp only [putDone, putMid, Bool.not_true, Bool.false_and, cond_false, Bool.true_or]
      simp [List.append_assoc]

theorem putDone_true (p : Pr) : ∀ (t : List Pr), putDone p true t = true
  | [] => rfl
  | q :: t => by simp only [putDone, Bool.true_or]; exact putDone_true p t

theorem putMid_len (p : Pr) : ∀ (t : List Pr) (d : Bool), (putMid p d t).length ≤ t.length + (bif d then 0 else bif putDone p d t then 1 else 0)
  | [], d => by simp [putMid]
  | q :: t, d => by
    have i1 := putMid_len p t true
    have i2 := putMid_len p t false
    have i3 := putDone_true p t
    simp only [cond_true, cond_false] at i1 i2
    simp only [putMid, putDone, List.length_append, List.length_cons]
    cases d <;> cases lts q.1 p.1 <;> cases eqs q.1 p.1 <;> simp [i3] <;> omega

theorem put_ok (N : Nat) (p : Pr) (t : List Pr) (hN : t.length < N) (ht : t.length < 100000) : ref05_Insert N t p = some (putGo p false t) := by
  have h := put_l0 N p t [] N false [] hN (by simpa using (by omega)) (by simp; omega)
  have hl := putMid_len p t false
  have e := putGo_eq p t false
  rw [e]
  have h' : ref05_Insert_l0 N N t false (0 : Int) p.1 p.2.1 p.2.2 [] = _ := h
  simp only [ref05_Insert, h']
  cases ed : putDone p false t
  · simp only [Bool.not_false, cond_true, List.nil_append, cond_false]
    rw [gd_t (fits_p (by simp [ed] at hl; omega) (by omega))]
    try rfl
  · simp only [Bool.not_true, cond_true, List.nil_append, cond_false, List.append_nil]

theorem putGo_len (p : Pr) (t : List Pr) : (putGo p false t).length ≤ t.length + 1 := by
  have hl := putMid_len p t false
  rw [putGo_eq, List.length_append]
  cases ed : putDone p false t <;> simp [ed] at hl ⊢ <;> omega

theorem putGo_mem {p x : Pr} : ∀ {t : List Pr} {d : Bool}, x ∈ putGo p d t → x = p ∨ x ∈ t
  | [], d, h => by cases d <;> simp [putGo] at h; exact .inl h
  | q :: t, d, h => by
    simp only [putGo, List.mem_append] at h
    rcases h with h | h | h
    · cases e : (!d && !(lts q.1 p.1)) <;> rw [e] at h <;> simp at h
      exact .inl h
    · cases e : (!(eqs q.1 p.1)) <;> rw [e] at h <;> simp at h
      exact .inr (by simp [h])
    · rcases putGo_mem h with h | h
      · exact .inl h
      · exact .inr (by simp [h])


end Ds
