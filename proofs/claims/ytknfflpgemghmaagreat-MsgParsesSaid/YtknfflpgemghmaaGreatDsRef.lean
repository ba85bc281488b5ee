/- What the reference's functions over tables and spans compute. -/
import Derived.Test.YtknfflpgemghmaaGreatDsApply
import Derived.Test.YtknfflpgemghmaaGreatDsList
set_option linter.all false
namespace Ds
open Go Go.Dv
set_option maxRecDepth 100000
set_option linter.unusedVariables false

/-- a loop along a list -/
theorem walk {α S R : Type} {xs : List α} {L : Nat → Int → S → Option R} (g : S → α → S) (fin : S → R) (I : S → List α → Prop)
    (hend : ∀ n s, I s [] → L (n + 1) (xs.length : Int) s = some (fin s))
    (hstep : ∀ n pre x post s, xs = pre ++ x :: post → I s (x :: post) → L (n + 1) (pre.length : Int) s = L n ((pre ++ [x]).length : Int) (g s x) ∧ I (g s x) post) :
    ∀ post pre n s, xs = pre ++ post → post.length < n → I s post → L n (pre.length : Int) s = some (fin (post.foldl g s)) ∧ I (post.foldl g s) []
  | _, _, 0, _, _, h, _ => absurd h (Nat.not_lt_zero _)
  | [], pre, n + 1, s, hx, _, hi => by
    have : xs = pre := by simpa using hx
    subst this
    exact ⟨hend n s hi, hi⟩
  | x :: post, pre, n + 1, s, hx, hn, hi => by
    obtain ⟨h1, h2⟩ := hstep n pre x post s hx hi
    have ih := walk g fin I hend hstep post (pre ++ [x]) n (g s x) (by rw [hx]; simp) (by simpa using hn) h2
    exact ⟨h1.trans ih.1, ih.2⟩

theorem walk0 {α S R : Type} {xs : List α} {L : Nat → Int → S → Option R} (g : S → α → S) (fin : S → R) (I : S → List α → Prop)
    (hend : ∀ n s, I s [] → L (n + 1) (xs.length : Int) s = some (fin s))
    (hstep : ∀ n pre x post s, xs = pre ++ x :: post → I s (x :: post) → L (n + 1) (pre.length : Int) s = L n ((pre ++ [x]).length : Int) (g s x) ∧ I (g s x) post)
    {n : Nat} {s : S} (hn : xs.length < n) (hi : I s xs) : L n 0 s = some (fin (xs.foldl g s)) :=
  (walk g fin I hend hstep xs [] n s rfl hn hi).1

abbrev Big (n : Nat) : Prop := n < 1000000000

/-! ## spans -/
def inS (l : List Sp) (k : B) : Bool := l.any fun s => hasB s k
theorem rHas_eq (N : Nat) (s : Sp) (k : B) : ref02_Has N s k = some (hasB s k) := by
  simp only [ref02_Has, hasB]
  cases lts k s.1 <;> cases eqs s.2 [] <;> rfl

theorem in_l0 (N : Nat) (k : B) : ∀ (post pre : List Sp) (n : Nat), post.length < n → Big (pre ++ post).length →
    ref02_In_l0 N n (pre ++ post) k (pre.length : Int) = some (bif inS post k then .inl (true, ()) else .inr ((), ()))
  | _, _, 0, h, _ => absurd h (Nat.not_lt_zero _)
  | [], pre, n + 1, _, _ => by
    rw [ref02_In_l0_succ]
    simp only [ref02_In_l0_step, List.append_nil, Int.lt_irrefl, decide_false, cond_false]
    rfl
  | q :: post, pre, n + 1, hn, hl => by
    simp only [List.length_cons] at hn
    have hl' : pre.length < 9223372036854775807 := by simp [Big] at hl; omega
    rw [ref02_In_l0_succ]
    simp only [ref02_In_l0_step, lt_mid, in_mid, cond_true, rd_mid, rHas_eq]
    rw [gd_t rfl]
    cases e : hasB q k
    · rw [cond_false, wr_mid (q := q) hl', app_mid (pre := pre) (q := q) (post := post), in_l0 N k post (pre ++ [q]) n (by omega) (by simpa using hl)]
      simp [inS, e]
    · simp [inS, e]

theorem In_ok (N : Nat) (l : List Sp) (k : B) (hN : l.length < N) (hl : Big l.length) : ref02_In N l k = some (inS l k) := by
  have h := in_l0 N k l [] N hN (by simpa using hl)
  have hz : (([] : List Sp).length : Int) = 0 := rfl
  simp only [List.nil_append, hz] at h
  simp only [ref02_In, h]
  cases inS l k <;> rfl

/-! ## tables -/
theorem flt_fold {α : Type} (f : α → Bool) (xs out : List α) : xs.foldl (fun o x => bif f x then o ++ [x] else o) out = out ++ xs.filter f := by
  induction xs generalizing out with
  | nil => simp
  | cons x xs ih =>
    rw [List.foldl_cons, ih]
    cases e : f x <;> simp [e]

theorem Without_ok (N : Nat) (t : List Pr) (l : List Sp) (hN : t.length < N) (hl : l.length < N) (ht : Big t.length) (hl' : Big l.length) : ref05_Without N t l = some (t.filter fun p => !(inS l p.1)) := by
  have h := walk0 (xs := t) (L := fun n i s => ref05_Without_l0 N n t l i s) (fun o x => bif !(inS l x.1) then o ++ [x] else o) (fun s => ((), (s, ()))) (fun s post => s.length + post.length < 1000000000)
    (fun n s _ => by
      rw [ref05_Without_l0_succ]
      simp only [ref05_Without_l0_step, Int.lt_irrefl, decide_false, cond_false])
    (fun n pre x post s hx hi => by
      have hb : pre.length < 9223372036854775807 := by rw [hx] at ht; simp [Big] at ht; omega
      simp only [List.length_cons] at hi
      rw [ref05_Without_l0_succ]
      rw [hx]
      simp only [ref05_Without_l0_step, lt_mid, in_mid, cond_true, rd_mid, In_ok N l _ hl hl']
      rw [gd_t rfl]
      cases inS l x.1
      · simp only [Bool.not_false, cond_true]
        rw [gd_t rfl, gd_t (fits_p (by omega) (by omega)), wr_mid (q := x) hb]
        exact ⟨rfl, by simp; omega⟩
      · simp only [Bool.not_true, cond_false]
        rw [wr_mid (q := x) hb]
        exact ⟨rfl, by omega⟩)
    hN (by simpa using ht) (s := [])
  simp only [ref05_Without, h, flt_fold, List.nil_append]

theorem Within_ok (N : Nat) (t : List Pr) (l : List Sp) (hN : t.length < N) (hl : l.length < N) (ht : Big t.length) (hl' : Big l.length) : ref05_Within N t l = some (t.filter fun p => inS l p.1) := by
  have h := walk0 (xs := t) (L := fun n i s => ref05_Within_l0 N n t l i s) (fun o x => bif inS l x.1 then o ++ [x] else o) (fun s => ((), (s, ()))) (fun s post => s.length + post.length < 1000000000)
    (fun n s _ => by
      rw [ref05_Within_l0_succ]
      simp only [ref05_Within_l0_step, Int.lt_irrefl, decide_false, cond_false])
    (fun n pre x post s hx hi => by
      have hb : pre.length < 9223372036854775807 := by rw [hx] at ht; simp [Big] at ht; omega
      simp only [List.length_cons] at hi
      rw [ref05_Within_l0_succ]
      rw [hx]
      simp only [ref05_Within_l0_step, lt_mid, in_mid, cond_true, rd_mid, In_ok N l _ hl hl']
      rw [gd_t rfl]
      cases inS l x.1
      · simp only [cond_false]
        rw [wr_mid (q := x) hb]
        exact ⟨rfl, by omega⟩
      · simp only [cond_true]
        rw [gd_t rfl, gd_t (fits_p (by omega) (by omega)), wr_mid (q := x) hb]
        exact ⟨rfl, by simp; omega⟩)
    hN (by simpa using ht) (s := [])
  simp only [ref05_Within, h, flt_fold, List.nil_append]

theorem Insert_ok (N : Nat) {t : List Pr} (p : Pr) (hs : Srt t) (hN : t.length < N) (ht : t.length < 100000) : ref05_Insert N t p = some (insT p t) := by
  rw [put_ok N p t hN ht, putGo_insT p hs]

theorem Join_ok (N : Nat) {a : List Pr} (b : List Pr) (ha : Srt a) (hN : a.length + b.length < N) (ht : a.length + b.length < 100000) : ref05_Join N a b = some (uniT a b) := by
  have h := walk0 (xs := b) (L := fun n i s => ref05_Join_l0 N n b i s) (fun t p => insT p t) (fun s => ((), (s, ()))) (fun s post => Srt s ∧ s.length + post.length ≤ a.length + b.length)
    (fun n s _ => by
      rw [ref05_Join_l0_succ]
      simp only [ref05_Join_l0_step, Int.lt_irrefl, decide_false, cond_false])
    (fun n pre x post s hx hi => by
      have hb : pre.length < 9223372036854775807 := by rw [hx] at ht; simp at ht; omega
      obtain ⟨h1, h2⟩ := hi
      simp only [List.length_cons] at h2
      have hin := insT_len x s
      have hbl := congrArg List.length hx
      rw [ref05_Join_l0_succ]
      rw [hx]
      simp only [ref05_Join_l0_step, lt_mid, in_mid, cond_true, rd_mid, Insert_ok N x h1 (show s.length < N by omega) (by omega)]
      rw [gd_t rfl, wr_mid (q := x) hb]
      exact ⟨rfl, h1.insT x, by omega⟩)
    (by omega) (show Srt a ∧ a.length + b.length ≤ a.length + b.length from ⟨ha, Nat.le_refl _⟩) (n := N)
  simp only [ref05_Join]
  rw [gd_t (fits_p (by omega) (by omega))]
  simp only [List.nil_append, h]
  rfl

theorem same_l0 (N : Nat) : ∀ (post pre : List Pr) (n : Nat), post.length < n → Big (pre ++ post).length → ref05_Same_l0 N n (pre ++ post) (pre ++ post) (pre.length : Int) = some (.inr ((), ()))
  | _, _, 0, h, _ => absurd h (Nat.not_lt_zero _)
  | [], pre, n + 1, _, _ => by
    rw [ref05_Same_l0_succ]
    simp only [ref05_Same_l0_step, List.append_nil, Int.lt_irrefl, decide_false, cond_false]
  | q :: post, pre, n + 1, hn, hl => by
    simp only [List.length_cons] at hn
    have hl' : pre.length < 9223372036854775807 := by simp [Big] at hl; omega
    rw [ref05_Same_l0_succ]
    simp only [ref05_Same_l0_step, lt_mid, in_mid, cond_true, rd_mid, eqs_self, eqi_self, Bool.and_self, Bool.not_true, cond_false]
    rw [gd_t rfl, gd_t rfl, wr_mid (q := q) hl', app_mid (pre := pre) (q := q) (post := post)]
    exact same_l0 N post (pre ++ [q]) n (by omega) (by simpa using hl)

theorem Same_ok {t : List Pr} (hN : t.length < NN) : ref05_Same NN t t = some true := by
  have h := same_l0 NN t [] NN hN (by simp only [NN, List.nil_append, Big] at hN ⊢; omega)
  have hz : (([] : List Pr).length : Int) = 0 := rfl
  simp only [List.nil_append, hz] at h
  simp only [ref05_Same, eqi_self, Bool.not_true, cond_false, h]

theorem sorted_l0 (N : Nat) : ∀ (post pre : List Pr) (q : Pr) (n : Nat), post.length < n → Big (pre ++ q :: post).length → Srt (q :: post) → ref05_Sorted_l0 N n (pre ++ q :: post) ((pre.length : Int) + 1) = some (.inr ((), ()))
  | _, _, _, 0, h, _, _ => absurd h (Nat.not_lt_zero _)
  | [], pre, q, n + 1, _, hl, _ => by
    have e : decide ((pre.length : Int) + 1 < ((pre ++ [q]).length : Int)) = false := by simp
    rw [ref05_Sorted_l0_succ]
    simp only [ref05_Sorted_l0_step, e, cond_false]
  | r :: post, pre, q, n + 1, hn, hl, hs => by
    simp only [List.length_cons] at hn
    obtain ⟨h1, h2⟩ := List.pairwise_cons.1 hs
    have hl' : pre.length < 999999999 := by simp [Big] at hl; omega
    have e : decide ((pre.length : Int) + 1 < ((pre ++ q :: r :: post).length : Int)) = true := by simp; omega
    have e1 : IntKind.wrap .i64 ((pre.length : Int) + 1 - (1 : Int)) = (pre.length : Int) := by rw [w64 (by omega) (by omega)]; omega
    have e2 : IntKind.wrap .i64 ((pre.length : Int) + 1 + (1 : Int)) = ((pre ++ [q]).length : Int) + 1 := by rw [w64 (by omega) (by omega)]; simp
    have i2 : inB ((pre.length : Int) + 1) (pre ++ q :: r :: post).length = true := inB_t (by omega) (by simp; omega)
    have r2 : rdL (pre ++ q :: r :: post) ((pre.length : Int) + 1) D_api_Pair = r := by
      rw [app_mid, show (pre.length : Int) + 1 = ((pre ++ [q]).length : Int) by simp, rd_mid]
    rw [ref05_Sorted_l0_succ]
    simp only [ref05_Sorted_l0_step, e, e1, e2, cond_true, in_mid, rd_mid, i2, r2, h1 r (by simp), Bool.not_true, cond_false]
    rw [gd_t rfl, gd_t rfl, app_mid]
    exact sorted_l0 N post (pre ++ [q]) r n (by omega) (by simpa using hl) h2

theorem Sorted_ok {t : List Pr} (hs : Srt t) (hN : t.length < NN) : ref05_Sorted NN t = some true := by
  cases t with
  | nil => rfl
  | cons q t =>
    simp only [List.length_cons] at hN
    have h := sorted_l0 NN t [] q NN (by omega) (by simp only [NN, List.nil_append, Big, List.length_cons] at hN ⊢; omega) hs
    have hz : (([] : List Pr).length : Int) + 1 = 1 := rfl
    simp only [List.nil_append, hz] at h
    simp only [ref05_Sorted, h]

/-! ## made tables -/
def tabG (t : List Pr) (x : V_a3_uint8) : Option Pr := match ref05_Key NN x.1, ref05_Value NN x.2.1 with | some k, some v => some (k, v, Int.tmod x.2.2 8) | _, _ => none

theorem table_ok {xs : List V_a3_uint8} (hx : okT (.list T_a3_uint8) xs) : ∃ t, ref05_Table NN xs 12 = some t ∧ Ok 12 7 t := by
  have hl : (xs.length : Int) ≤ 140737488351232 := by
    have : xs.length * 3 ≤ 0x7ffffffff000 := hx.1
    omega
  have hmem : ∀ i : Int, 0 ≤ i → i < (xs.length : Int) → okT T_a3_uint8 (rdL (α := V_a3_uint8) xs i D_a3_uint8) := by
    intro i h0 h1
    obtain ⟨h, e⟩ := rd_at xs i D_a3_uint8 h0 h1
    rw [e]
    exact hx.2 i.toNat _ (List.getElem?_eq_getElem h)
  have loop := iter_inv (A := (((List V_a3_uint8) × (Int × (Unit × Int))) × ((List V_api_Pair) × Unit))) (R := ((Unit × ((List V_api_Pair) × Unit))))
    (f := fun rec v => ref05_Table_l0_step NN (fun b0 b1 b2 b3 => rec ((b0, (b1, ((), b2))), (b3, ()))) v.1.1 v.1.2.1 v.1.2.2.2 v.2.1)
    (fun v => v.1.1 = xs ∧ v.1.2.1 = 12 ∧ 0 ≤ v.1.2.2.2 ∧ v.1.2.2.2 ≤ 12 ∧ (v.2.1.length : Int) ≤ v.1.2.2.2 ∧ Srt v.2.1 ∧ ∀ p ∈ v.2.1, p.1.length ≤ 7)
    (fun r => (r.2.1.length : Int) ≤ 12 ∧ Srt r.2.1 ∧ ∀ p ∈ r.2.1, p.1.length ≤ 7) (fun v => (12 - v.1.2.2.2).toNat)
    (by
      rintro rec ⟨⟨b0, b1, u, i⟩, out, _⟩ ⟨rfl, rfl, h3, h4, h5, hs, h6⟩ ih
      simp only at h3 h4 h5 h6 hs hl hmem
      simp only [ref05_Table_l0_step]
      cases e1 : decide (i < (b0.length : Int))
      · exact ⟨_, rfl, by simp only; omega, hs, h6⟩
      cases e2 : decide (i < (12 : Int))
      · exact ⟨_, rfl, by simp only; omega, hs, h6⟩
      have e1 := of_decide_eq_true e1
      have e2 := of_decide_eq_true e2
      obtain ⟨w1, w2, w3⟩ := hmem i h3 e1
      obtain ⟨k, hk, hkm⟩ := key_ok (u8_of_wf w1).1 (u8_of_wf w1).2
      obtain ⟨v, hv, hvm⟩ := value_ok (u8_of_wf w2).1 (u8_of_wf w2).2
      have hn := tmod_b (u8_of_wf w3).1 (show (0 : Int) < 8 by decide)
      simp only [cond_true]
      rw [gd_t (inB_t h3 e1), hk]
      simp only
      rw [gd_t (inB_t h3 e1), hv]
      simp only
      rw [gd_t (inB_t h3 e1), w64 (by omega) (by omega)]
      have hlen := insT_len (k, v, Int.tmod (rdL b0 i D_a3_uint8).2.2 8) out
      rw [Insert_ok NN _ hs (by simp only [NN]; omega) (by omega)]
      simp only
      rw [w64 (by omega) (by omega)]
      exact ih ((b0, 12, (), i + 1), insT (k, v, Int.tmod (rdL b0 i D_a3_uint8).2.2 8) out, ()) ⟨rfl, rfl, by simp only; omega, by simp only; omega, by simp only; omega, hs.insT _, fun x hx => by
        rcases insT_mem hx with rfl | h
        · exact good_key hkm
        · exact h6 _ h⟩ (by simp only; omega))
    NN ((xs, 12, (), 0), [], ()) ⟨rfl, rfl, Int.le_refl _, (by simp only; omega), Int.le_refl _, List.Pairwise.nil, fun m h => by simp at h⟩ (by simp only [NN]; omega)
  obtain ⟨r, h1, h2, h3, h4⟩ := loop
  exact ⟨r.2.1, by simp only [ref05_Table, ref05_Table_l0, h1], ⟨h3, by omega, h4⟩⟩
end Ds
