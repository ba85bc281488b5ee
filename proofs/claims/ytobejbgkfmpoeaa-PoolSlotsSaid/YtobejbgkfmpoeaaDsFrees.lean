/- PoolFrees, PoolShares. -/
import Derived.Test.YtobejbgkfmpoeaaDsPoolD
set_option linter.all false
namespace Ds
open Go Go.Dv
set_option maxRecDepth 100000
set_option linter.unusedVariables false

theorem HInv.sound1 {p : List Sl} {R : List Int} {m : Nat} (h : HInv p R m) (hm : m ≤ 1000) : ref11_Sound NN p R = some true ∧ pool_Sound NN p R = some true := by
  have hak := h.ak
  have hpl := h.pl
  have hrl := h.rl
  obtain ⟨b, b1, b2, b3⟩ := sounds (N := NN) (by decide) (p := p) (R := R) (by omega) (fun s hs => by have := h.kk s hs; omega) (by omega) (by omega)
  have := b3.2 h.bal.sound
  subst this
  exact ⟨b2, b1⟩

theorem none_used {q : List Sl} (h : Bal q []) : ∀ i, ¬ usedB q i = true := fun i hi =>
  up_ind h (fun _ => False) (fun k hk => (by cases hk)) (fun i k _ hf _ => hf) i hi

theorem uids_nil {q : List Sl} (h : ∀ i, ¬ usedB q i = true) : uids q = [] := by
  cases e : uids q with
  | nil => rfl
  | cons x l => exact absurd (mem_uids.1 (by rw [e]; simp)) (h x)

theorem newId_eq {p : List Sl} {m : Nat} (h1 : ∀ i : Int, 0 ≤ i → i < (m : Int) → usedB p i = true) (h2 : usedB p (m : Int) = false) : newId p = m := by
  rcases Nat.lt_trichotomy (newId p) m with h | h | h
  · have := h1 (newId p : Int) (by omega) (by omega)
    rw [newId_free] at this; cases this
  · exact h
  · have := newId_used (p := p) (i := (m : Int)) (by omega) (by omega)
    rw [h2] at this; cases this

theorem HInv.refs {p : List Sl} {R : List Int} {m : Nat} (h : HInv p R m) (hm : m ≤ 100) (c : Nat) (hc : c < 1000) : ∀ i : Int, 0 ≤ i → 0 ≤ refsS (slA p i) ∧ refsS (slA p i) + (c : Int) < 500000000 := by
  have hak := h.ak
  have hpl := h.pl
  have hrl := h.rl
  intro i hi
  by_cases hui : usedB p i = true
  · rw [h.bal.refs i hui]
    have l1 := List.count_le_length (a := i) (l := R)
    have l2 := List.count_le_length (a := i) (l := allKids p)
    omega
  · have hz : refsS D0 = 0 := rfl
    by_cases hi1 : i < (p.length : Int)
    · rw [not_used_zero h.bal hi hi1 hui]; omega
    · rw [slA_out hi (by omega)]; omega

theorem add_used {p : List Sl} {n : Nd} {R : List Int} {m : Nat} (h : HInv p R m) (hm : m ≤ 100) (hu : n.2.2.1.all (usedB p) = true) (hk : n.2.2.1.length < 1000) (i : Int) : usedB (addP p n) i = true ↔ i = (newId p : Int) ∨ usedB p i = true := by
  obtain ⟨hl, hat⟩ := addP_at hu (h.refs hm _ hk)
  have hlen := ext_len p
  constructor
  · intro hi
    obtain ⟨h0, h1, h2⟩ := usedB_iff.1 hi
    by_cases e : i = (newId p : Int)
    · exact .inl e
    · rw [hat i h0, if_neg e] at h2
      have h2 : (slA p i).1 = true := h2
      refine .inr (usedB_iff.2 ⟨h0, ?_, h2⟩)
      by_cases hlt : i < (p.length : Int)
      · exact hlt
      · rw [slA_out h0 (by omega)] at h2; cases h2
  · rintro (rfl | hi)
    · refine usedB_iff.2 ⟨by omega, by rw [hl]; exact hlen.1, ?_⟩
      rw [hat _ (by omega), if_pos rfl]; rfl
    · obtain ⟨h0, h1, h2⟩ := usedB_iff.1 hi
      have e : i ≠ (newId p : Int) := fun e => by rw [e, newId_free] at hi; cases hi
      refine usedB_iff.2 ⟨h0, by rw [hl]; omega, ?_⟩
      rw [hat i h0, if_neg e]; exact h2

abbrev N0 : Nd := (([] : List V_api_Pair), (([] : List (List UInt8)), (([] : List Int), (([] : List V_api_Sum), ([] : List V_api_Msg)))))
theorem smallN0 : SmallN N0 := ⟨by decide, rfl, by decide, rfl, rfl⟩

theorem frees_l1 (b0 : Bool) : ∀ (k n i m : Nat) (p : List Sl) (R : List Int), i + k = 3 → k < n → HInv p R m → m + k ≤ 100 → (∀ j : Int, usedB p j = true ↔ 0 ≤ j ∧ j < (i : Int)) →
    law11_PoolFrees_l1 NN n b0 (i : Int) p = some (.inr (b0, ()))
  | _, 0, _, _, _, _, _, h, _, _, _ => absurd h (Nat.not_lt_zero _)
  | 0, n + 1, i, m, p, R, e, _, _, _, _ => by
    rw [law11_PoolFrees_l1_succ]
    simp only [law11_PoolFrees_l1_step]
    rw [bif_f (by simp; omega)]
  | k + 1, n + 1, i, m, p, R, e, hn, h, hm, hu => by
    have hid : newId p = i := newId_eq (fun j h0 h1 => (hu j).2 ⟨h0, h1⟩) (by
      cases hx : usedB p (i : Int) with
      | false => rfl
      | true => have := ((hu _).1 hx).2; omega)
    obtain ⟨a, b⟩ := add_small (n := N0) h (by omega) rfl smallN0 (by decide)
    have hpl := h.pl
    have ha : law11_add NN p N0 = some (addP p N0, ((newId p : Int), 0)) := by
      unfold law11_add
      rw [pool_Add_eq (by decide) (by omega) (by decide), b]
    rw [law11_PoolFrees_l1_succ]
    simp only [law11_PoolFrees_l1_step]
    rw [bif_t (by simp; omega)]
    have ha' : law11_add NN p (([] : List V_api_Pair), (([] : List (List UInt8)), (([] : List Int), (([] : List V_api_Sum), ([] : List V_api_Msg))))) = _ := ha
    rw [ha']
    simp only [eqi_self, Bool.not_true, cond_false, hid]
    rw [w64 (by omega) (by omega)]
    have ih := frees_l1 b0 k n (i + 1) (m + 1) (addP p N0) _ (by omega) (by omega) a (by omega) (fun j => by
      rw [add_used h (by omega) rfl (by decide), hu, hid]; omega)
    have ei : ((i + 1 : Nat) : Int) = (i : Int) + 1 := by omega
    rw [ei] at ih
    exact ih

/-- the roots that are left -/
def leftR (t : Bool) (R : List Int) (i : Nat) : List Int := if t = true then R.take (R.length - i) else R.drop i

theorem frees_l0 {R : List Int} {m : Nat} (hm : m ≤ 100) (t b1 : Bool) (p0 : List Sl) (hp0 : p0.length ≤ m) (hak : ∀ q, Shr p0 q → ∀ L, Bal q L → (allKids q).length ≤ 3 * m) (hR : R.length ≤ m) : ∀ (k n i : Nat) (p : List Sl), i + k = R.length → k < n → Bal p (leftR t R i) → Shr p0 p →
    ∃ q, law11_PoolFrees_l0 NN n t b1 (i : Int) p0 R p = some (.inr ((b1, ((), ())), ((p0, R), (q, ())))) ∧ Bal q [] ∧ Shr p0 q
  | _, 0, _, _, _, h, _, _ => absurd h (Nat.not_lt_zero _)
  | 0, n + 1, i, p, e, _, h, hs => by
    refine ⟨p, ?_, ?_, hs⟩
    · rw [law11_PoolFrees_l0_succ]
      simp only [law11_PoolFrees_l0_step]
      rw [bif_f (by simp; omega)]
    · have : leftR t R i = [] := by
        unfold leftR
        have e' : i = R.length := by omega
        subst e'
        split <;> simp
      rw [this] at h; exact h
  | k + 1, n + 1, i, p, e, hn, h, hs => by
    have hi : i < R.length := by omega
    rw [law11_PoolFrees_l0_succ]
    simp only [law11_PoolFrees_l0_step]
    rw [bif_t (by simp; omega), gd_t (inB_t (by omega) (by omega))]
    have hlen := hs.len
    have ei : ((i + 1 : Nat) : Int) = (i : Int) + 1 := by omega
    have hw : IntKind.wrap .i64 ((i : Int) + 1) = (i : Int) + 1 := w64 (by omega) (by omega)
    cases t with
    | true =>
      have w1 : IntKind.wrap .i64 (IntKind.wrap .i64 ((R.length : Int) - 1) - (i : Int)) = ((R.length - i - 1 : Nat) : Int) := by
        rw [w64 (n := (R.length : Int) - 1) (by omega) (by omega), w64 (by omega) (by omega)]; omega
      have hlt : R.length - i - 1 < R.length := by omega
      have hrd : rdL R ((R.length - i - 1 : Nat) : Int) 0 = R[R.length - i - 1] := by simp [rdL, hlt]
      have hL : leftR true R i = R.take (R.length - i - 1) ++ [R[R.length - i - 1]] := by
        show R.take (R.length - i) = _
        have key := List.take_add_one (l := R) (i := R.length - i - 1)
        have e2 : R.length - i - 1 + 1 = R.length - i := by omega
        rw [e2, List.getElem?_eq_getElem hlt] at key
        rw [key]; rfl
      have hL2 : leftR true R (i + 1) = R.take (R.length - i - 1) := by show R.take (R.length - (i + 1)) = _; congr 1
      have hb : Bal p (R[R.length - i - 1] :: R.take (R.length - i - 1)) := h.congr fun x => by rw [hL]; simp only [List.count_append, List.count_cons, List.count_nil]; omega
      obtain ⟨q, q1, q2, q3⟩ := pool_Drop_ok (N := NN) (by decide) hb (by omega) (by have := hak p hs _ h; rw [List.length_take]; omega)
      obtain ⟨r, r1, r2, r3⟩ := frees_l0 hm true b1 p0 hp0 hak hR k n (i + 1) q (by omega) (by omega) (by rw [hL2]; exact q2) (hs.trans q3)
      refine ⟨r, ?_, r2, r3⟩
      simp only [cond_true]
      rw [w1, gd_t (inB_t (by omega) (by omega)), hrd, q1]
      simp only [eqi_self, Bool.not_true, cond_false, hw]
      rw [ei] at r1
      exact r1
    | false =>
      have hrd : rdL R (i : Int) 0 = R[i] := by simp [rdL, hi]
      have hL : leftR false R i = R[i] :: R.drop (i + 1) := by
        show R.drop i = _
        exact (List.getElem_cons_drop hi).symm
      have hb : Bal p (R[i] :: R.drop (i + 1)) := by rw [← hL]; exact h
      obtain ⟨q, q1, q2, q3⟩ := pool_Drop_ok (N := NN) (by decide) hb (by omega) (by have := hak p hs _ h; rw [List.length_drop]; omega)
      obtain ⟨r, r1, r2, r3⟩ := frees_l0 hm false b1 p0 hp0 hak hR k n (i + 1) q (by omega) (by omega) q2 (hs.trans q3)
      refine ⟨r, ?_, r2, r3⟩
      simp only [cond_false, hrd, q1, eqi_self, Bool.not_true, hw]
      rw [ei] at r1
      exact r1

theorem HInv.akS {p : List Sl} {R : List Int} {m : Nat} (h : HInv p R m) : ∀ q, Shr p q → ∀ L, Bal q L → (allKids q).length ≤ 3 * m := fun q hs L hb => by
  obtain ⟨_, b⟩ := small_shr h.small h.kk hs hb
  refine Nat.le_trans (ak_le q 3 b) (Nat.mul_le_mul_left 3 ?_)
  rw [hs.len]; exact h.pl

theorem plainFrees (l : List V_ref11_Raw) (t : Bool) (hl : okT (.list T_ref11_Raw) l) (ht : okT .bool t) : law11_PoolFrees NN l t = some true := by
  obtain ⟨p, R, e1, h⟩ := play_ok hl
  have hNN : NN = 2000000 := rfl
  have hrl := h.rl
  have hpl := h.pl
  obtain ⟨q, q1, q2, q3⟩ := frees_l0 (R := R) (m := 16) (by omega) t true p h.pl h.akS h.rl R.length NN 0 p (by omega) (by omega) (by unfold leftR; split <;> simpa using h.bal) (Shr.refl p)
  have hq : HInv q [] 16 := h.drop q2 q3 (by simp)
  have hu := none_used q2
  have hlive : liveN q = 0 := by rw [← len_uids, uids_nil hu]; rfl
  unfold law11_PoolFrees
  rw [sanity_ok, e1]
  simp only
  have q1' : law11_PoolFrees_l0 NN NN t true (0 : Int) p R p = _ := q1
  rw [q1']
  have hql : q.length = p.length := q3.len
  simp only [pool_Live_eq (N := NN) (by decide) (by omega : q.length ≤ 100000), hlive, (hq.sound1 (by omega)).1]
  have hf := frees_l1 true 3 NN 0 16 q [] (by omega) (by decide) hq (by omega) (fun j => ⟨fun hj => absurd hj (hu j), fun hj => by omega⟩)
  have hf' : law11_PoolFrees_l1 NN NN true (0 : Int) q = _ := hf
  rw [hf', hql]
  simp

/-! ## PoolShares -/
theorem rch_shr {p q : List Sl} {L R : List Int} (hq : Bal q L) (hs : Shr p q) (hR : ∀ k ∈ R, usedB p k = true → usedB q k = true) (i : Int) : Rch p R i ↔ Rch q R i := by
  constructor
  · intro h
    induction h with
    | root hk hu => exact .root hk (hR _ hk hu)
    | @kid a b ha hk hu ih =>
      have hua := ih.used
      have hk' : b ∈ kidsS (slA q a) := by rw [kids_node, (hs.node a hua).2, ← kids_node]; exact hk
      exact .kid ih hk' (hq.kid b (kid_mem hua hk'))
  · intro h
    induction h with
    | root hk hu => exact .root hk (hs.node _ hu).1
    | @kid a b ha hk hu ih =>
      have hk' : b ∈ kidsS (slA p a) := by rw [kids_node, ← (hs.node a ha.used).2, ← kids_node]; exact hk
      exact .kid ih hk' (hs.node b hu).1

theorem pool_Get_used {N : Nat} {p : List Sl} {L : List Int} (h : Bal p L) {i : Int} (hu : usedB p i = true) : pool_Get N p i = some (nodeS (slA p i), 0) := by
  obtain ⟨h0, h1, h2⟩ := usedB_iff.1 hu
  have hl : ((rdL p i D_api_Slot).2).1 = false := h.lost _ (rd_mem h0 h1)
  unfold pool_Get
  rw [pool_used_eq, hu]
  simp only [Bool.not_true, cond_false]
  rw [gd_t (inB_t h0 h1), hl]
  simp only [cond_false]
  rw [gd_t (inB_t h0 h1)]
  rfl

theorem pool_Get_no {N : Nat} {p : List Sl} {i : Int} (hu : usedB p i = false) : pool_Get N p i = some (N0, 110) := by
  unfold pool_Get
  rw [pool_used_eq, hu]
  rfl

def leftK (R : List Int) (k : Nat) (root : Int) (i : Nat) : List Int := R.drop i ++ (if k < i then [root] else [])

theorem shares_l0 {R : List Int} {m kk : Nat} (hkk : kk < R.length) (hm : m ≤ 100) (b0 : Bool) (p0 : List Sl) (hp0 : p0.length ≤ m) (hak : ∀ q, Shr p0 q → ∀ L, Bal q L → (allKids q).length ≤ 3 * m) (hR : R.length ≤ m) : ∀ (k n i : Nat) (p : List Sl), i + k = R.length → k < n → Bal p (leftK R kk R[kk] i) → Shr p0 p →
    ∃ q, law11_PoolShares_l0 NN n b0 (kk : Int) R[kk] (i : Int) p0 R p = some (.inr ((b0, ((), (R[kk], ()))), ((p0, R), (q, ())))) ∧ Bal q [R[kk]] ∧ Shr p0 q
  | _, 0, _, _, _, h, _, _ => absurd h (Nat.not_lt_zero _)
  | 0, n + 1, i, p, e, _, h, hs => by
    refine ⟨p, ?_, ?_, hs⟩
    · rw [law11_PoolShares_l0_succ]
      simp only [law11_PoolShares_l0_step]
      rw [bif_f (by simp; omega)]
    · have : leftK R kk R[kk] i = [R[kk]] := by
        unfold leftK
        rw [if_pos (by omega), List.drop_eq_nil_of_le (by omega)]; rfl
      rw [this] at h; exact h
  | k + 1, n + 1, i, p, e, hn, h, hs => by
    have hi : i < R.length := by omega
    rw [law11_PoolShares_l0_succ]
    simp only [law11_PoolShares_l0_step]
    rw [bif_t (by simp; omega)]
    have hlen := hs.len
    have ei : ((i + 1 : Nat) : Int) = (i : Int) + 1 := by omega
    have hw : IntKind.wrap .i64 ((i : Int) + 1) = (i : Int) + 1 := w64 (by omega) (by omega)
    have hd : R.drop i = R[i] :: R.drop (i + 1) := (List.getElem_cons_drop hi).symm
    rw [hw]
    by_cases hik : i = kk
    · subst hik
      rw [bif_t (eqi_iff.2 rfl)]
      obtain ⟨q, q1, q2, q3⟩ := shares_l0 hkk hm b0 p0 hp0 hak hR k n (i + 1) p (by omega) (by omega) (h.congr fun x => by
        unfold leftK
        rw [if_pos (by omega), if_neg (by omega), hd]
        simp only [List.count_append, List.count_cons, List.count_nil]; omega) hs
      rw [ei] at q1
      exact ⟨q, q1, q2, q3⟩
    · rw [bif_f (eqi_ne (by omega)), gd_t (inB_t (by omega) (by omega))]
      have hrd : rdL R (i : Int) 0 = R[i] := by simp [rdL, hi]
      have hb : Bal p (R[i] :: leftK R kk R[kk] (i + 1)) := h.congr fun x => by
        unfold leftK
        rw [hd]
        by_cases hki : kk < i
        · rw [if_pos hki, if_pos (by omega)]
          simp only [List.count_append, List.count_cons]; omega
        · rw [if_neg hki, if_neg (by omega)]
          simp only [List.count_append, List.count_cons]; omega
      obtain ⟨q, q1, q2, q3⟩ := pool_Drop_ok (N := NN) (by decide) hb (by omega) (by
        have := hak p hs _ h
        have : (leftK R kk R[kk] (i + 1)).length ≤ R.length + 1 := by
          unfold leftK
          rw [List.length_append, List.length_drop]
          split <;> simp <;> omega
        omega)
      obtain ⟨r, r1, r2, r3⟩ := shares_l0 hkk hm b0 p0 hp0 hak hR k n (i + 1) q (by omega) (by omega) q2 (hs.trans q3)
      refine ⟨r, ?_, r2, r3⟩
      rw [hrd, q1]
      simp only [eqi_self, Bool.not_true, cond_false]
      rw [ei] at r1
      exact r1

theorem shares_l1 (b0 : Bool) (p q : List Sl) (b3 : List Int) {L L' : List Int} (hp : Bal p L) (hq : Bal q L') (hs : Shr p q) (hsm : ∀ s ∈ p, SmallN (nodeS s)) : ∀ (post pre : List Int) (n : Nat), post.length < n → (pre ++ post).length < 1000000 → (∀ x ∈ post, usedB q x = true) →
    law11_PoolShares_l1 NN n b0 (pre.length : Int) p b3 q (pre ++ post) = some (.inr (b0, ()))
  | [], _, 0, h, _, _ => absurd h (Nat.not_lt_zero _)
  | _ :: _, _, 0, h, _, _ => absurd h (Nat.not_lt_zero _)
  | [], pre, n + 1, _, _, _ => by
    rw [law11_PoolShares_l1_succ]
    simp only [law11_PoolShares_l1_step, List.append_nil, Int.lt_irrefl, decide_false, cond_false]
  | x :: post, pre, n + 1, hn, hb, hu => by
    simp only [List.length_append, List.length_cons] at hb hn
    have hux := hu x (by simp)
    obtain ⟨hup, hnd⟩ := hs.node x hux
    rw [law11_PoolShares_l1_succ]
    simp only [law11_PoolShares_l1_step, lt_mid, in_mid, rd_mid, cond_true, pool_Get_used hp hup, pool_Get_used hq hux, eqi_self, Bool.not_true, cond_false, hnd]
    have hsn : ref11_SameNode NN (nodeS (slA p x)) (nodeS (slA p x)) = some true := sameNode_refl (by decide) (hsm _ (rd_mem (used_nn hup) (used_lt hup)))
    rw [gd_t rfl, gd_t rfl, hsn]
    simp only [Bool.not_true, cond_false]
    rw [wr_mid (q := x) (by omega), app_mid (pre := pre) (q := x) (post := post)]
    exact shares_l1 b0 p q b3 hp hq hs hsm post (pre ++ [x]) n (by omega) (by simp only [List.length_append, List.length_cons, List.length_nil]; omega) (fun y hy => hu y (by simp [hy]))

theorem plainShares (l : List V_ref11_Raw) (w : Int) (hl : okT (.list T_ref11_Raw) l) (hw : (Lit.int .u8 w).wf = true) : law11_PoolShares NN l w = some true := by
  obtain ⟨p, R, e1, h⟩ := play_ok hl
  have hNN : NN = 2000000 := rfl
  have hrl := h.rl
  have hpl := h.pl
  have hak := h.ak
  have hwb := u8_of_wf hw
  unfold law11_PoolShares
  rw [sanity_ok, e1]
  simp only
  by_cases hr : R.length = 0
  · rw [bif_t (eqi_iff.2 (by omega))]
  · rw [bif_f (eqi_ne (by omega)), gd_t (by rw [eqi_ne (by omega)]; rfl)]
    have hw1 : IntKind.wrap .i64 w = w := w64 (by omega) (by omega)
    have ht := tmod_b hwb.1 (b := (R.length : Int)) (by omega)
    obtain ⟨kk, hkk⟩ : ∃ kk : Nat, Int.tmod w (R.length : Int) = (kk : Int) := ⟨(Int.tmod w (R.length : Int)).toNat, by omega⟩
    rw [hw1, hkk]
    have hk1 : kk < R.length := by omega
    have hrd : rdL R (kk : Int) 0 = R[kk] := by simp [rdL, hk1]
    rw [gd_t (inB_t (by omega) (by omega)), hrd]
    obtain ⟨q, q1, q2, q3⟩ := shares_l0 (R := R) (m := 16) hk1 (by omega) true p h.pl h.akS h.rl R.length NN 0 p (by omega) (by omega) (h.bal.congr fun x => by unfold leftK; simp) (Shr.refl p)
    have q1' : law11_PoolShares_l0 NN NN true (kk : Int) R[kk] (0 : Int) p R p = _ := q1
    rw [q1']
    have hq : HInv q [R[kk]] 16 := h.drop q2 q3 (by simp)
    have hqak := hq.ak
    have hqpl := hq.pl
    obtain ⟨a, a1, a2⟩ := pool_Reach_ok (N := NN) (by decide) (p := p) (R := [R[kk]]) (by omega) (fun s hs => by have := h.kk s hs; omega) (by simp)
    obtain ⟨b, b1, b2⟩ := pool_Reach_ok (N := NN) (by decide) (p := q) (R := [R[kk]]) (by omega) (fun s hs => by have := hq.kk s hs; omega) (by simp)
    have hab : a = b := by
      refine asc_ext a2.1 b2.1 fun x => ?_
      rw [a2.2, b2.2]
      exact rch_shr q2 q3 (fun k hk _ => q2.mem k hk) x
    subst hab
    have hun : a = uids q := by
      refine asc_ext a2.1 (asc_enumB _ _) fun x => ?_
      rw [b2.2, mem_uids]
      exact ⟨fun hx => hx.used, fun hx => q2.sound.rch x hx⟩
    have hal : a.length = liveN q := by rw [hun, len_uids]
    have hll : liveN q ≤ q.length := List.countP_le_length
    simp only [a1, b1, ints_refl (N := NN) (by decide) (by omega : a.length < 1000000), pool_Live_eq (N := NN) (by decide) (by omega : q.length ≤ 100000), (hq.sound1 (by omega)).1, hal, eqi_self, Bool.not_true, cond_false]
    have hf := shares_l1 true p q R h.bal q2 q3 h.small a [] NN (by omega) (by simp; omega) (fun x hx => by rw [hun] at hx; exact mem_uids.1 hx)
    have hf' : law11_PoolShares_l1 NN NN true (0 : Int) p R q a = _ := hf
    rw [hf']

end Ds
