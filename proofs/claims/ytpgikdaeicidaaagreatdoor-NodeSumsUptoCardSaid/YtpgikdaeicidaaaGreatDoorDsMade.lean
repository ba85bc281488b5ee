/- What the reference's Made makes: valid nodes. -/
import Derived.Test.YtpgikdaeicidaaaGreatDoorDsTabs
import Derived.Test.YtpgikdaeicidaaaGreatDoorDsValid
import Derived.Test.YtpgikdaeicidaaaGreatDoorDvE
set_option linter.all false
namespace Ds
open Go Go.Dv
set_option maxRecDepth 100000
set_option linter.unusedVariables false
def midK (k : B) : Bool → List B → List B
  | true, l => l
  | false, [] => []
  | false, q :: t => bif !(lts q k) then (bif lts k q then [k] else []) ++ q :: t else q :: midK k false t
def znn (k : B) : Bool → List B → Bool
  | true, _ => true
  | false, l => l.any fun q => !(lts q k)
def insK (k : B) (l : List B) : List B := midK k false l ++ bif znn k false l then [] else [k]
abbrev Vast (n : Nat) : Prop := n < 40000000000
theorem x3l (pre : List B) (x : B) (h : Vast (pre ++ [x]).length) : IntKind.wrap .i64 ((pre.length : Int) + (1 : Int)) = ((pre ++ [x]).length : Int) := zjw (q := x) (by simp at h; omega)
theorem yyd {n : Nat} (h : n < 100000000000) : fits n 16 = true := x25 (by simp only [maxB]; omega) (by simp only [maxB]; omega)
theorem xbl (l : List B) (k : B) (i : Int) (hi : inB i l.length = true) (hk : rdL l i ([] : B) = k) : ∀ (post pre : List B) (n : Nat) (d : Bool) (out : List B), post.length < n → Vast (pre ++ post).length → out.length + 2 * post.length < 90000000000 →
    z5n NN n l i d (pre.length : Int) (pre ++ post) out = some ((l, (i, ((), znn k d post))), (out ++ midK k d post, ()))
  | [], pre, n + 1, d, out, _, _, _ => by
    rw [zhn, z5m, y82]
    cases d <;> simp [znn, midK]
  | q :: post, pre, n + 1, d, out, hn, hv, ho => by
    have hv' : pre.length + (post.length + 1) < 40000000000 := by simpa [Vast] using hv
    have hw := x3l pre q (by simp; omega)
    have ho' : out.length + 2 * (post.length + 1) < 90000000000 := by simpa using ho
    have ih : ∀ (d : Bool) (out : List B), out.length + 2 * post.length < 90000000000 → z5n NN n l i d ((pre ++ [q]).length : Int) (pre ++ q :: post) out = some ((l, (i, ((), znn k d post))), (out ++ midK k d post, ())) := fun d out h => by
      have := xbl l k i hi hk post (pre ++ [q]) n d out (by simpa using hn) (by rw [← z2j]; exact hv) h
      rw [← z2j] at this
      exact this
    rw [zhn, z5m, zk3, cond_true]
    simp only [gd_t z7m, z3n, gd_t hi, hk, x9h, hw]
    cases d
    · simp only [Bool.not_false, cond_true, znn, midK, List.any_cons]
      cases h1 : lts q k
      · simp only [Bool.not_false, cond_true, Bool.true_or]
        cases h2 : lts k q
        · simp only [cond_false, List.nil_append]
          rw [gd_t (yyd (by simp; omega)), ih true _ (by simp; omega)]
          simp [znn, midK]
        · simp only [cond_true]
          rw [gd_t (yyd (by simp; omega)), gd_t (yyd (by simp; omega)), ih true _ (by simp; omega)]
          simp [znn, midK]
      · simp only [Bool.not_true, cond_false, Bool.false_or]
        rw [gd_t (yyd (by simp; omega)), ih false _ (by simp; omega)]
        simp [znn, midK]
    · simp only [Bool.not_true, cond_false]
      rw [gd_t (yyd (by simp; omega)), ih true _ (by simp; omega)]
      simp [znn, midK]
theorem yvj (k : B) : ∀ l : List B, (midK k false l).length + (bif znn k false l then 0 else 1) ≤ l.length + 1
  | [] => by simp [midK, znn]
  | q :: t => by
    have ih := yvj k t
    simp only [midK, znn, List.any_cons] at ih ⊢
    cases h1 : lts q k
    · cases lts k q <;> simp
    · simp only [Bool.not_true, cond_false, Bool.false_or, List.length_cons]
      omega
abbrev SrtB (l : List B) : Prop := l.Pairwise fun a b => lts a b = true
theorem midK_mem {k x : B} : ∀ {l : List B}, x ∈ midK k false l → x = k ∨ x ∈ l
  | [], h => by simp [midK] at h
  | q :: t, h => by
    simp only [midK] at h
    cases h1 : lts q k <;> rw [h1] at h <;> simp only [Bool.not_false, Bool.not_true, cond_true, cond_false] at h
    · rcases List.mem_append.1 h with h | h
      · cases h2 : lts k q <;> rw [h2] at h <;> simp at h
        exact .inl h
      · exact .inr h
    · rcases List.mem_cons.1 h with rfl | h
      · exact .inr (by simp)
      · rcases midK_mem h with h | h
        · exact .inl h
        · exact .inr (by simp [h])
theorem x4m (k : B) : ∀ {l : List B}, SrtB l → SrtB (insK k l)
  | [], _ => by simp [insK, midK, znn, SrtB]
  | q :: t, h => by
    have ht := List.Pairwise.of_cons h
    have hq : ∀ x ∈ t, lts q x = true := (List.pairwise_cons.1 h).1
    have ih := x4m k ht
    simp only [insK, midK, znn, List.any_cons] at ih ⊢
    cases h1 : lts q k
    · simp only [Bool.not_false, cond_true, Bool.true_or, List.append_nil]
      cases h2 : lts k q
      · simpa using h
      · simp only [cond_true, List.singleton_append]
        exact List.pairwise_cons.2 ⟨fun x hx => by
          rcases List.mem_cons.1 hx with rfl | hx
          · exact h2
          · exact z0s h2 (hq x hx), h⟩
    · simp only [Bool.not_true, cond_false, Bool.false_or, List.cons_append]
      refine List.pairwise_cons.2 ⟨fun x hx => ?_, ih⟩
      rcases List.mem_append.1 hx with hx | hx
      · rcases midK_mem hx with rfl | hx
        · exact h1
        · exact hq x hx
      · cases hd : (t.any fun q => !(lts q k)) <;> rw [hd] at hx <;> simp at hx
        subst hx; exact h1
theorem insK_mem {k x : B} {l : List B} (h : x ∈ insK k l) : x = k ∨ x ∈ l := by
  unfold insK at h
  rcases List.mem_append.1 h with h | h
  · exact midK_mem h
  · cases hd : znn k false l <;> rw [hd] at h <;> simp at h
    exact .inl h
theorem xaf (k : B) (l : List B) : (insK k l).length ≤ l.length + 1 := by
  have := yvj k l
  unfold insK
  cases h : znn k false l <;> rw [h] at this <;> simp at this ⊢ <;> omega
theorem xbm : ∀ (post pre : List B) (n : Nat) (out : List B), post.length < n → Vast (pre ++ post).length → out.length ≤ pre.length → (∀ x ∈ post, x ≠ []) →
    z8t NN n (pre ++ post) (pre.length : Int) out = some ((), (post.foldl (fun o k => insK k o) out, ()))
  | [], pre, n + 1, out, _, _, _, _ => by
    rw [zho, z5o, y82]; rfl
  | q :: post, pre, n + 1, out, hn, hv, ho, hne => by
    have hv' : pre.length + (post.length + 1) < 40000000000 := by simpa [Vast] using hv
    have hw := x3l pre q (by simp; omega)
    have hq : eqs q [] = false := z6c (hne q (by simp))
    have h1 := xbl (pre ++ q :: post) q (pre.length : Int) z7m z3n out [] NN false [] (by simp only [NN]; omega) (by simp; omega) (by simp; omega)
    simp only [List.nil_append, List.length_nil] at h1
    rw [show ((0 : Nat) : Int) = 0 from rfl] at h1
    have ih := xbm post (pre ++ [q]) n (insK q out) (by simpa using hn) (by rw [← z2j]; exact hv) (by have := xaf q out; simp; omega) (fun x hx => hne x (by simp [hx]))
    rw [← z2j] at ih
    rw [zho, z5o, zk3, cond_true]
    simp only [gd_t z7m, z3n, hq]
    rw [h1]
    simp only [hw, gd_t z7m, z3n]
    have hl := yvj q out
    rw [List.foldl_cons, ← ih]
    cases hd : znn q false out
    · rw [hd] at hl
      simp only [Bool.not_false, cond_true]
      rw [gd_t (yyd (by simp at hl ⊢; omega))]
      simp only [insK, hd, cond_false]
    · simp only [Bool.not_true, cond_false]
      simp only [insK, hd, cond_true, List.append_nil]
theorem x97 {l : List B} (hv : Vast l.length) (hne : ∀ x ∈ l, x ≠ []) : ∃ p, zkn NN l = some p ∧ SrtB p ∧ ∀ x ∈ p, x ∈ l := by
  have h := xbm l [] NN [] (by simp only [NN]; omega) (by simpa using hv) (by simp) hne
  simp only [List.nil_append, List.length_nil] at h
  rw [show ((0 : Nat) : Int) = 0 from rfl] at h
  have key : ∀ (l out : List B), SrtB out → SrtB (l.foldl (fun o k => insK k o) out) ∧ ∀ x ∈ l.foldl (fun o k => insK k o) out, x ∈ out ∨ x ∈ l := by
    intro l
    induction l with
    | nil => exact fun out h => ⟨h, fun x hx => .inl hx⟩
    | cons k l ih =>
      intro out h
      obtain ⟨a, b⟩ := ih (insK k out) (x4m k h)
      exact ⟨a, fun x hx => by
        rcases b x hx with h | h
        · rcases insK_mem h with rfl | h
          · exact .inr (by simp)
          · exact .inl h
        · exact .inr (by simp [h])⟩
  obtain ⟨a, b⟩ := key l [] List.Pairwise.nil
  exact ⟨_, by unfold zkn; rw [h], a, fun x hx => by rcases b x hx with h | h; cases h; exact h⟩
theorem x4e (b1 : List V2) (b2 : List Int) (b4 : List z0v) (b5 : List V4) (b6 : List Pr) (b7 : List B) (b8 : List Int) (b9 : List Z4) (b10 : List Mg) : ∀ (post pre : List Int) (n : Nat) (out : List B), post.length < n → Vast (pre ++ post).length → out.length ≤ pre.length → (∀ v ∈ post, (0 : Int) ≤ v ∧ v < 256) → (∀ k ∈ out, k ∈ tkeys) →
    ∃ r, zcc NN n (pre.length : Int) b1 b2 (pre ++ post) b4 b5 b6 b7 b8 b9 b10 out = some (((), ((), ())), ((b1, (b2, (pre ++ post, (b4, b5)))), (((), ((), ((), ((), ())))), (b6, (b7, (b8, (b9, (b10, (r, ())))))))) ) ∧ (∀ k ∈ r, k ∈ tkeys) ∧ r.length ≤ (pre ++ post).length
  | [], pre, n + 1, out, _, _, ho, _, hk => ⟨out, by rw [zll, z7y, y82]; rfl, hk, by simpa using ho⟩
  | v :: post, pre, n + 1, out, hn, hv, ho, hb, hk => by
    have hv' : pre.length + (post.length + 1) < 40000000000 := by simpa [Vast] using hv
    have hw : IntKind.wrap .i64 ((pre.length : Int) + (1 : Int)) = ((pre ++ [v]).length : Int) := zjw (q := v) (by omega)
    have hv0 := hb v (by simp)
    obtain ⟨k, h1, h2⟩ := x6y hv0.1 hv0.2
    obtain ⟨r, h3, h4, h5⟩ := x4e b1 b2 b4 b5 b6 b7 b8 b9 b10 post (pre ++ [v]) n (out ++ [k]) (by simpa using hn) (by rw [← z2j]; exact hv) (by simp; omega) (fun u hu => hb u (by simp [hu])) (fun x hx => by
      rcases List.mem_append.1 hx with h | h
      · exact hk x h
      · simp at h; subst h; exact h2)
    rw [← z2j] at h3 h5
    refine ⟨r, ?_, h4, h5⟩
    rw [zll, z7y, zk3, cond_true, gd_t z7m, z3n, h1]
    simp only [hw]
    rw [gd_t (yyd (by omega))]
    exact h3
theorem yqu {n : Int} (h : 0 ≤ n ∧ n < 256) : IntKind.wrap .i64 n = n := w64 (by omega) (by omega)
abbrev sumQ (x : Z4) : Prop := sumB x = true ∧ x.1.2 ≤ 510 ∧ x.2.2 ≤ 510
theorem yvk (b1 : List V2) (ks : List Int) (b3 : List Int) (sm : List z0v) (b5 : List V4) (b6 : List Pr) (b7 : List B) (b8 : List Int) (b9 : List Z4) (b10 : List Mg) (piv : List B) (b12 : List Pr) (buf : List Mg)
    (hks : ∀ k ∈ ks, (0 : Int) ≤ k ∧ k < 256) (hsm : ∀ x ∈ sm, ((0 : Int) ≤ x.1 ∧ x.1 < 256) ∧ ((0 : Int) ≤ x.2.1 ∧ x.2.1 < 256) ∧ ((0 : Int) ≤ x.2.2.1 ∧ x.2.2.1 < 256) ∧ ((0 : Int) ≤ x.2.2.2 ∧ x.2.2.2 < 256)) (hl : piv.length < ks.length) (hp : piv.length < 100) :
    ∀ (m i n : Nat) (kids : List Int) (sums : List Z4), i + m = piv.length + 1 → m < n → kids.length = i → sums.length = i → (∀ k ∈ kids, inR k 0 4095 = true) → (∀ x ∈ sums, sumQ x) →
    ∃ r, zcb NN n (i : Int) b1 ks b3 sm b5 b6 b7 b8 b9 b10 piv b12 kids sums buf = some r ∧ r.2.2.2.2.2.2.2.2.1 = b12 ∧ r.2.2.2.2.2.2.2.1.2.1 = piv ∧ r.2.2.2.2.2.2.2.2.2.2.2.1 = buf ∧
      r.2.2.2.2.2.2.2.2.2.1.length = piv.length + 1 ∧ r.2.2.2.2.2.2.2.2.2.2.1.length = piv.length + 1 ∧ (∀ k ∈ r.2.2.2.2.2.2.2.2.2.1, inR k 0 4095 = true) ∧ (∀ x ∈ r.2.2.2.2.2.2.2.2.2.2.1, sumQ x)
  | 0, i, n + 1, kids, sums, hi, _, hk, hs, h1, h2 => by
    refine ⟨_, by rw [zlk, z7x, z5e (by simp; omega)], rfl, rfl, rfl, by simp only; omega, by simp only; omega, h1, h2⟩
  | m + 1, i, n + 1, kids, sums, hi, hn, hk, hs, h1, h2 => by
    have hw : IntKind.wrap .i64 ((i : Int) + (1 : Int)) = ((i + 1 : Nat) : Int) := by rw [w64 (by omega) (by omega)]; rfl
    obtain ⟨hi1, e1⟩ := x9c ks (i : Int) 0 (by omega) (by omega)
    have hkr : (0 : Int) ≤ rdL ks (i : Int) 0 ∧ rdL ks (i : Int) 0 < 256 := by rw [e1]; exact hks _ (List.getElem_mem _)
    have hkn : ∀ k ∈ kids ++ [rdL ks (i : Int) 0], inR k 0 4095 = true := fun k hk => by
      rcases List.mem_append.1 hk with h | h
      · exact h1 k h
      · simp at h; subst h; exact zcg.2 ⟨hkr.1, by omega⟩
    rw [zlk, z7x, z9u (by simp; omega)]
    by_cases hj : (i : Int) < (sm.length : Int)
    · obtain ⟨hi2, e2⟩ := x9c sm (i : Int) zbr (by omega) hj
      have hx := hsm _ (List.getElem_mem hi2)
      rw [← e2] at hx
      obtain ⟨x1, x2, x3, x4⟩ := hx
      generalize rdL sm (i : Int) zbr = x at *
      have a1 : IntKind.wrap .i64 (x.1 + x.2.1) = x.1 + x.2.1 := w64 (by omega) (by omega)
      have a2 : IntKind.wrap .i64 (x.2.2.1 + x.2.2.2) = x.2.2.1 + x.2.2.2 := w64 (by omega) (by omega)
      rw [z9u (by simpa using hj), gd_t (z6t (by omega) hj), gd_t (z6t (by omega) (by omega))]
      simp only [yqu x1, yqu x2, yqu x3, yqu x4, yqu hkr, a1, a2]
      rw [gd_t (z8e (by simp; omega) (by omega)), gd_t (z8e (by simp; omega) (by omega)), hw]
      refine yvk b1 ks b3 sm b5 b6 b7 b8 b9 b10 piv b12 buf hks hsm hl hp m (i + 1) n _ _ (by omega) (by omega) (by simp; omega) (by simp; omega) hkn (fun y hy => ?_)
      rcases List.mem_append.1 hy with h | h
      · exact h2 y h
      · simp at h; subst h
        simp only [sumQ, sumB, rngB, Bool.and_eq_true, decide_eq_true_eq]
        omega
    · rw [z5e (by simpa using hj), gd_t (z6t (by omega) (by omega))]
      simp only [yqu hkr]
      rw [gd_t (z8e (by simp; omega) (by omega)), gd_t (z8e (by simp; omega) (by omega)), hw]
      refine yvk b1 ks b3 sm b5 b6 b7 b8 b9 b10 piv b12 buf hks hsm hl hp m (i + 1) n _ _ (by omega) (by omega) (by simp; omega) (by simp; omega) hkn (fun y hy => ?_)
      rcases List.mem_append.1 hy with h | h
      · exact h2 y h
      · simp at h; subst h; exact ⟨rfl, by decide, by decide⟩
abbrev allS : Sp := ([], [])
theorem xdk (x : Sp) : covB allS x = true := by
  unfold covB
  cases emptyB x
  · have h1 : hasB allS x.1 = true := by simp [hasB, eqs]; cases x.1 <;> rfl
    rw [h1]; rfl
  · rfl
theorem yz2 {m : Mg} (h : vldB m = true) : msgB allS m = true := by
  simp only [msgB, h, Bool.true_and, insB]
  exact List.all_eq_true.2 fun x _ => xdk x
theorem x75 : ∀ {l : List B} {lo : B}, SrtB l → (∀ x ∈ l, lts lo x = true) → pivB lo [] l = true
  | [], _, _, _ => rfl
  | p :: r, lo, h, hlo => by
    have h1 := hlo p (by simp)
    have := x75 (l := r) (lo := p) (List.Pairwise.of_cons h) (List.pairwise_cons.1 h).1
    simp [pivB, h1, this, eqs]
theorem xdv : ∀ {t : List Pr}, Srt t → upB t = true
  | [], _ => rfl
  | [p], _ => rfl
  | p :: q :: r, h => by
    have := xdv (t := q :: r) (List.Pairwise.of_cons h)
    rw [x6w, this, Bool.and_true]
    exact (List.pairwise_cons.1 h).1 q (by simp)
structure GoodN (n : Nd) : Prop where
  small : xbx n
  val : valB n allS = true
  tiny : n.1.length ≤ 40 ∧ n.2.1.length ≤ 9 ∧ n.2.2.1.length ≤ 10 ∧ n.2.2.2.1.length ≤ 10 ∧ n.2.2.2.2.length ≤ 12
  buf : ∀ m ∈ n.2.2.2.2, Good m
  keys : ∀ p ∈ n.1, yhw p
  piv : ∀ k ∈ n.2.1, k ∈ tkeys
  sums : ∀ x ∈ n.2.2.2.1, x.1.2 ≤ 510 ∧ x.2.2 ≤ 510
theorem x8k {x : zii} (hx : okT ze8 x) (hs : x.2.2.1.length ≤ 20000000000) : ∃ n, zvn NN x = some n ∧ GoodN n := by
  obtain ⟨ps, ks, vs, sm, bs⟩ := x
  obtain ⟨o1, o2, o3, o4, o5⟩ := hx
  simp only at o1 o2 o3 o4 o5 hs
  have mem : ∀ {l : List Int}, okT (.list (.int .u8)) l → ∀ k ∈ l, (0 : Int) ≤ k ∧ k < 256 := fun {l} h k hk => by
    obtain ⟨i, hi⟩ := List.getElem?_of_mem hk
    exact z6k (h.2 i k hi)
  unfold zvn
  simp only [isE]
  cases hk : ks.isEmpty
  · simp only [cond_false]
    obtain ⟨r, h1, h2, h3⟩ := x4e ps ks sm bs [] [] [] [] [] vs [] NN [] (by simp only [NN]; omega) (by simp [Vast]; omega) (by simp) (mem o3) (fun k h => by cases h)
    simp only [List.nil_append, List.length_nil] at h1 h3
    rw [show ((0 : Nat) : Int) = 0 from rfl] at h1
    obtain ⟨p, h4, h5, h6⟩ := x97 (l := r) (by simp [Vast]; omega) (fun k hk e => by have := (y3b (h2 k hk)).1; rw [e] at this; simp at this)
    obtain ⟨buf, h7, h8, h9⟩ := xd9 o5 (k := 12) ⟨by omega, by omega⟩
    rw [h1]
    simp only
    rw [h4]
    simp only
    have hkl : ks.length ≠ 0 := by cases ks with
      | nil => simp at hk
      | cons _ _ => simp
    have o2' := o2.1
    simp only [Ty.bytes, reachBytes] at o2'
    have x6 : ∃ a : Nat, (bif decide ((10 : Int) < (ks.length : Int)) then (10 : Int) else (ks.length : Int)) = (a : Int) ∧ 1 ≤ a ∧ a ≤ 10 ∧ a ≤ ks.length := by
      by_cases h : (10 : Int) < (ks.length : Int)
      · exact ⟨10, by simp [h], by omega, by omega, by omega⟩
      · exact ⟨ks.length, by simp [h], by omega, by omega, by omega⟩
    obtain ⟨a, ha, ha1, ha2, ha3⟩ := x6
    rw [ha]
    have wa : IntKind.wrap .i64 ((a : Int) - 1) = ((a - 1 : Nat) : Int) := by rw [w64 (by omega) (by omega)]; omega
    rw [wa]
    have x7 : ∃ b : Nat, (bif decide (((a - 1 : Nat) : Int) < (p.length : Int)) then ((a - 1 : Nat) : Int) else (p.length : Int)) = (b : Int) ∧ b ≤ a - 1 ∧ b ≤ p.length := by
      by_cases h : ((a - 1 : Nat) : Int) < (p.length : Int)
      · exact ⟨a - 1, by rw [z9u (by simpa using h)], by omega, by omega⟩
      · exact ⟨p.length, by rw [z5e (by simpa using h)], by omega, by omega⟩
    obtain ⟨b, hb, hb1, hb2⟩ := x7
    rw [hb, gd_t (by simp; omega), h7]
    have hc : cut2 p (0 : Int) (b : Int) = p.take b := by simp [cut2]
    rw [hc]
    simp only
    have hpl : (p.take b).length = b := by rw [List.length_take]; omega
    obtain ⟨rr, g1, g2, g3, g4, g5, g6, g7, g8⟩ := yvk ps ks vs sm bs [] [] [] [] [] (p.take b) [] buf (mem o2) (fun x hx => by
      obtain ⟨i, hi⟩ := List.getElem?_of_mem hx
      have := o4.2 i x hi
      exact ⟨z6k this.1, z6k this.2.1, z6k this.2.2.1, z6k this.2.2.2⟩) (by omega) (by omega) (b + 1) 0 NN [] [] (by omega) (by simp only [NN]; omega) rfl rfl (fun k h => by cases h) (fun k h => by cases h)
    rw [show ((0 : Nat) : Int) = 0 from rfl] at g1
    rw [g1]
    refine ⟨_, rfl, ?_⟩
    rw [g2, g3, g4]
    generalize rr.2.2.2.2.2.2.2.2.2.1 = kids at *
    generalize rr.2.2.2.2.2.2.2.2.2.2.1 = sums at *
    have hsub : ∀ k ∈ p.take b, k ∈ tkeys := fun k hk => h2 k (h6 k (List.mem_of_mem_take hk))
    refine ⟨⟨by simp, by simp only; omega, by simp only; omega, by simp only; omega, by simp only; omega⟩, ?_, ⟨by simp, by simp only; omega, by simp only; omega, by simp only; omega, by simp only; omega⟩, h9, (fun p h => by cases h), hsub, fun x hx => (g8 x hx).2⟩
    unfold valB innB
    simp only
    have e1 : kids.isEmpty = false := by cases kids with
      | nil => simp at g5
      | cons _ _ => rfl
    rw [e1, cond_false, w7.2 (show (sums.length : Int) = (kids.length : Int) by omega), w7.2 (show ((p.take b).length : Int) = (kids.length : Int) - 1 by omega)]
    have e2 : pivB [] [] (p.take b) = true := x75 (h5.sublist (List.take_sublist _ _)) (fun x hx => by
      have := (y3b (hsub x hx)).1
      cases x with
      | nil => simp at this
      | cons _ _ => rfl)
    have e3 : (kids.zip sums).all kidB = true := List.all_eq_true.2 fun y hy => by
      have hz := List.of_mem_zip hy
      simp only [kidB, g7 _ hz.1, (g8 _ hz.2).1, Bool.and_self]
    have e4 : buf.all (msgB allS) = true := List.all_eq_true.2 fun m hm => yz2 (x4q (h9 m hm))
    rw [e2, e3, e4]
    rfl
  · simp only [cond_true]
    obtain ⟨t, h1, h2, h3⟩ := x4j o1
    rw [h1]
    refine ⟨_, rfl, ⟨by have := h2.len; simp only; omega, by simp, by simp, by simp, by simp⟩, ?_, ⟨h2.len, by simp, by simp, by simp, by simp⟩, (fun m h => by cases h), h3, (fun k h => by cases h), fun k h => by cases h⟩
    unfold valB xc6
    simp only [List.isEmpty_nil, cond_true, Bool.and_self, Bool.true_and, xdv h2.srt]
    refine List.all_eq_true.2 fun p hp => ?_
    obtain ⟨q1, q2, q3, q4⟩ := h3 p hp
    have l1 := y3b q1
    have l2 := yv7 q2
    have s1 : x9a p = true := by
      have q4 : p.2.2 < 4 := q4
      simp only [x9a, Bool.and_eq_true, zcg, decide_eq_true_eq]
      omega
    have s2 : hasB allS p.1 = true := by simp [hasB, eqs]; cases p.1 <;> rfl
    simp only [x1t, s1, s2, Bool.and_self]
end Ds
