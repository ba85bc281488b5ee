/- PoolReaches, PoolMatchesReference. -/
import Derived.Test.YtobejbgkfmpoeaaDsFrees
set_option linter.all false
namespace Ds
open Go Go.Dv
set_option maxRecDepth 100000
set_option linter.unusedVariables false

theorem reaches_l2 (b0 : List Int) (b1 : Bool) (b2 : Int) (p : List Sl) (b5 b6 : List Int) : ∀ (post pre : List Int) (n : Nat) (known : List Bool), post.length < n → (pre ++ post).length < 1000000 → known.length = p.length → (∀ x ∈ post, usedB p x = true) →
    ∃ known', law11_PoolReaches_l2 NN n b0 b1 b2 (pre.length : Int) p b5 b6 known (pre ++ post) = some (.inr ((b0, (b1, ((), ((), ((), b2))))), ((p, b5), (b6, (known', ()))))) ∧ known'.length = p.length ∧ ∀ j : Int, 0 ≤ j → (rdL known' j false = true ↔ rdL known j false = true ∨ j ∈ post)
  | [], _, 0, _, h, _, _, _ => absurd h (Nat.not_lt_zero _)
  | _ :: _, _, 0, _, h, _, _, _ => absurd h (Nat.not_lt_zero _)
  | [], pre, n + 1, known, _, _, hl, _ => by
    refine ⟨known, ?_, hl, fun j _ => by simp⟩
    rw [law11_PoolReaches_l2_succ]
    simp only [law11_PoolReaches_l2_step, List.append_nil, Int.lt_irrefl, decide_false, cond_false]
  | x :: post, pre, n + 1, known, hn, hb, hl, hu => by
    simp only [List.length_append, List.length_cons] at hb hn
    have hux := hu x (by simp)
    have x0 := used_nn hux
    have x1 : x < (known.length : Int) := by rw [hl]; exact used_lt hux
    rw [law11_PoolReaches_l2_succ]
    simp only [law11_PoolReaches_l2_step, lt_mid, in_mid, rd_mid, cond_true, ref_used_eq, hux, Bool.not_true, cond_false]
    rw [gd_t rfl, gd_t rfl, gd_t (inB_t x0 x1), wr_mid (q := x) (by omega), app_mid (pre := pre) (q := x) (post := post)]
    obtain ⟨k', e1, e2, e3⟩ := reaches_l2 b0 b1 b2 p b5 b6 post (pre ++ [x]) n (setL known x true) (by omega) (by simp only [List.length_append, List.length_cons, List.length_nil]; omega) (by simpa using hl) (fun y hy => hu y (by simp [hy]))
    refine ⟨k', e1, e2, fun j hj => ?_⟩
    rw [e3 j hj]
    by_cases e : j = x
    · subst e; rw [rd_set_same x0 x1]; simp
    · rw [rd_set_other x0 hj e]; simp [e]

theorem rch_app {p : List Sl} {A : List Int} {x j : Int} : Rch p (A ++ [x]) j ↔ Rch p A j ∨ Rch p [x] j := by
  constructor
  · intro h
    induction h with
    | root hk hu =>
      rcases List.mem_append.1 hk with h | h
      · exact .inl (.root h hu)
      · exact .inr (.root h hu)
    | kid _ hk hu ih =>
      rcases ih with h | h
      · exact .inl (.kid h hk hu)
      · exact .inr (.kid h hk hu)
  · rintro (h | h)
    · exact h.mono (fun k hk => by simp [hk])
    · exact h.mono (fun k hk => List.mem_append.2 (.inr hk))

theorem reaches_l0 {p : List Sl} {R : List Int} {m : Nat} (h : HInv p R m) (hm : m ≤ 100) (b1 : Bool) : ∀ (post pre : List Int) (n : Nat) (all : List Int) (known : List Bool), post.length < n → (pre ++ post).length < 1000 → all.length + post.length < 1000 → known.length = p.length → (∀ j : Int, 0 ≤ j → (rdL known j false = true ↔ Rch p all j)) →
    ∃ all' known', law11_PoolReaches_l0 NN n (pre ++ post) b1 (pre.length : Int) p R all known = some (.inr ((b1, ((), ((), ()))), ((p, R), (all', (known', ()))))) ∧ known'.length = p.length ∧ all'.length < 1000 ∧ ∀ j : Int, 0 ≤ j → (rdL known' j false = true ↔ Rch p all' j)
  | [], _, 0, _, _, h, _, _, _, _ => absurd h (Nat.not_lt_zero _)
  | _ :: _, _, 0, _, _, h, _, _, _, _ => absurd h (Nat.not_lt_zero _)
  | [], pre, n + 1, all, known, _, _, ha, hl, hk => by
    refine ⟨all, known, ?_, hl, by simpa using ha, hk⟩
    rw [law11_PoolReaches_l0_succ]
    simp only [law11_PoolReaches_l0_step, List.append_nil, Int.lt_irrefl, decide_false, cond_false]
  | r :: post, pre, n + 1, all, known, hn, hb, ha, hl, hk => by
    simp only [List.length_append, List.length_cons] at hb hn ha
    have hpl := h.pl
    have hNN : NN = 2000000 := rfl
    rw [law11_PoolReaches_l0_succ]
    simp only [law11_PoolReaches_l0_step, lt_mid, in_mid, rd_mid, cond_true]
    obtain ⟨x, hx⟩ : ∃ x, x = IntKind.wrap .i64 r := ⟨_, rfl⟩
    rw [← hx]
    obtain ⟨one, o1, o2⟩ := pool_Reach_ok (N := NN) (by decide) (p := p) (R := [x]) (by omega) (fun s hs => by have := h.kk s hs; omega) (by simp)
    have hol := nodup_le (a := one) (b := uids p) (o2.1.imp (fun h => by omega)) (fun y hy => mem_uids.2 ((o2.2 y).1 hy).used)
    have hll : liveN p ≤ p.length := List.countP_le_length
    rw [len_uids] at hol
    rw [gd_t rfl, gd_t (fits_p (by simp; omega) (by omega)), gd_t rfl, o1]
    simp only
    obtain ⟨k1, e1, e2, e3⟩ := reaches_l2 (pre ++ r :: post) b1 (pre.length : Int) p R (all ++ [x]) one [] NN known (by omega) (by simp; omega) hl (fun y hy => ((o2.2 y).1 hy).used)
    have e1' : law11_PoolReaches_l2 NN NN (pre ++ r :: post) b1 (pre.length : Int) (0 : Int) p R (all ++ [x]) known one = _ := e1
    rw [e1']
    simp only
    rw [wr_mid (q := r) (by omega), app_mid (pre := pre) (q := r) (post := post)]
    exact reaches_l0 h hm b1 post (pre ++ [r]) n (all ++ [x]) k1 (by omega) (by simp only [List.length_append, List.length_cons, List.length_nil]; omega) (by simp; omega) e2 (fun j hj => by
      rw [e3 j hj, hk j hj, o2.2, rch_app])

theorem reaches_l3 {p : List Sl} {R : List Int} {L : List Int} (h : Bal p L) (hkk : ∀ s ∈ p, (kidsS s).length ≤ 3) (b0 : Bool) {i : Int} (i0 : 0 ≤ i) (i1 : i < (p.length : Int)) (known : List Bool) (hl : known.length = p.length) (all : List Int) (hk : ∀ j : Int, 0 ≤ j → (rdL known j false = true ↔ Rch p all j)) (reached : List Int) : ∀ (m n k : Nat), k + m = (kidsS (slA p i)).length → m < n →
    law11_PoolReaches_l3 NN n b0 i (k : Int) p R known reached = some (.inr ((b0, ((), ((), ((), i)))), ((p, R), (known, (reached, ())))))
  | _, 0, _, _, h => absurd h (Nat.not_lt_zero _)
  | 0, n + 1, k, e, _ => by
    rw [law11_PoolReaches_l3_succ]
    simp only [law11_PoolReaches_l3_step]
    have hx : (((((((rdL p i D_api_Slot).2).2).2).2).2).1) = kidsS (slA p i) := rfl
    rw [gd_t (inB_t i0 i1), hx, bif_f (by simp; omega)]
  | m + 1, n + 1, k, e, hn => by
    have h3 := hkk (slA p i) (rd_mem i0 i1)
    rw [law11_PoolReaches_l3_succ]
    simp only [law11_PoolReaches_l3_step]
    have hx : (((((((rdL p i D_api_Slot).2).2).2).2).2).1) = kidsS (slA p i) := rfl
    have i1k : i < (known.length : Int) := by rw [hl]; exact i1
    rw [gd_t (inB_t i0 i1), hx, bif_t (by simp; omega), gd_t (inB_t i0 i1k)]
    have ih := reaches_l3 (R := R) h hkk b0 i0 i1 known hl all hk reached m n (k + 1) (by omega) (by omega)
    have ei : ((k + 1 : Nat) : Int) = (k : Int) + 1 := by omega
    rw [ei] at ih
    rw [w64 (by omega) (by omega), ih]
    cases hkn : rdL known i false with
    | false => rfl
    | true =>
      have hr := (hk i i0).1 hkn
      have hmem : rdL (kidsS (slA p i)) (k : Int) 0 ∈ kidsS (slA p i) := rd_mem (by omega) (by omega)
      have hu := h.kid _ (kid_mem hr.used hmem)
      have hkt := (hk _ (used_nn hu)).2 (.kid hr hmem hu)
      simp only [cond_true]
      rw [gd_t (inB_t i0 i1), gd_t (inB_t (by omega) (by omega)), gd_t (inB_t (used_nn hu) (by rw [hl]; exact used_lt hu)), hkt]
      rfl

theorem reaches_l1 {p : List Sl} {R : List Int} {m : Nat} (h : HInv p R m) (hm : m ≤ 100) (b0 : Bool) (known : List Bool) (hl : known.length = p.length) (all : List Int) (hk : ∀ j : Int, 0 ≤ j → (rdL known j false = true ↔ Rch p all j)) (reached : List Int) (hr : IsReach p all reached) (hrl : reached.length < 1000000) : ∀ (k n i : Nat), i + k = p.length → k < n →
    law11_PoolReaches_l1 NN n b0 (i : Int) p R known reached = some (.inr ((b0, ((), ((), ()))), ((p, R), (known, (reached, ())))))
  | _, 0, _, _, h => absurd h (Nat.not_lt_zero _)
  | 0, n + 1, i, e, _ => by
    rw [law11_PoolReaches_l1_succ]
    simp only [law11_PoolReaches_l1_step]
    rw [bif_f (by simp; omega)]
  | k + 1, n + 1, i, e, hn => by
    have hpl := h.pl
    have hNN : NN = 2000000 := rfl
    have h3 := h.kk (slA p i) (rd_mem (by omega) (by omega))
    rw [law11_PoolReaches_l1_succ]
    simp only [law11_PoolReaches_l1_step]
    rw [bif_t (by simp; omega), gd_t (inB_t (by omega) (by omega)), has_eq (N := NN) (by decide) hrl]
    have heq : rdL known (i : Int) false = decide ((i : Int) ∈ reached) := by
      have a := hk (i : Int) (by omega)
      rw [← hr.2] at a
      cases hx : rdL known (i : Int) false with
      | true => rw [hx] at a; exact (decide_eq_true (a.1 rfl)).symm
      | false =>
        rw [hx] at a
        exact (decide_eq_false fun hh => by have := a.2 hh; cases this).symm
    simp only [heq, eqb_self, Bool.not_true, cond_false]
    have h3' := reaches_l3 (R := R) h.bal h.kk b0 (i := (i : Int)) (by omega) (by omega) known hl all hk reached (kidsS (slA p (i : Int))).length NN 0 (by omega) (by omega)
    have h3'' : law11_PoolReaches_l3 NN NN b0 (i : Int) (0 : Int) p R known reached = _ := h3'
    rw [h3'']
    simp only
    rw [w64 (by omega) (by omega)]
    have ih := reaches_l1 h hm b0 known hl all hk reached hr hrl k n (i + 1) (by omega) (by omega)
    have ei : ((i + 1 : Nat) : Int) = (i : Int) + 1 := by omega
    rw [ei] at ih
    exact ih

theorem plainReaches (l : List V_ref11_Raw) (roots : List Int) (hl : okT (.list T_ref11_Raw) l) (hr : okT (.list (.int .i8)) roots) : law11_PoolReaches NN l roots = some true := by
  have hNN : NN = 2000000 := rfl
  unfold law11_PoolReaches
  rw [sanity_ok]
  simp only
  by_cases h8 : (8 : Int) < (List.length roots : Int)
  · rw [bif_t (by simpa using h8)]
  · rw [bif_f (by simpa using h8)]
    obtain ⟨p, R, e1, h⟩ := play_ok hl
    have hpl := h.pl
    have hak := h.ak
    rw [e1]
    simp only
    rw [gd_len p 1 (by omega) (by omega) (by omega)]
    have z0 : ∀ j : Int, rdL (List.replicate p.length false) j false = false := fun j => by simp only [rdL, List.getD_eq_getElem?_getD, List.getElem?_replicate]; split <;> rfl
    have hno : ∀ j, ¬ Rch p [] j := fun j hj => by
      induction hj with
      | root hk _ => cases hk
      | kid _ _ _ ih => exact ih
    obtain ⟨all, known, f1, f2, f3, f4⟩ := reaches_l0 h (by omega) true roots [] NN [] (List.replicate p.length false) (by omega) (by simp; omega) (by simp; omega) (by simp) (fun j _ => by rw [z0]; exact ⟨fun hh => (by cases hh), fun hh => absurd hh (hno j)⟩)
    have f1' : law11_PoolReaches_l0 NN NN roots true (0 : Int) p R ([] : List Int) (List.replicate p.length false) = _ := f1
    simp only [Int.toNat_natCast]
    rw [f1']
    simp only
    obtain ⟨reached, r1, r2⟩ := pool_Reach_ok (N := NN) (by decide) (p := p) (R := all) (by omega) (fun s hs => by have := h.kk s hs; omega) (by omega)
    have hol := nodup_le (a := reached) (b := uids p) (r2.1.imp (fun h => by omega)) (fun y hy => mem_uids.2 ((r2.2 y).1 hy).used)
    have hll : liveN p ≤ p.length := List.countP_le_length
    rw [len_uids] at hol
    have g1 := reaches_l1 h (by omega) true known f2 all f4 reached r2 (by omega) p.length NN 0 (by omega) (by omega)
    have g1' : law11_PoolReaches_l1 NN NN true (0 : Int) p R known reached = _ := g1
    rw [r1]
    simp only
    rw [g1']
    simp only
    rw [bif_t (by simp; omega)]
    obtain ⟨e, t1, t2⟩ := pool_Reach_ok (N := NN) (by decide) (p := p) (R := []) (by omega) (fun s hs => by have := h.kk s hs; omega) (by simp)
    have he : e = [] := by
      cases e with
      | nil => rfl
      | cons x xs => exact absurd ((t2.2 x).1 (by simp)) (hno x)
    subst he
    rw [t1]
    rfl

/-! ## PoolMatchesReference -/
theorem get_same (N : Nat) (p : List Sl) (k : Int) : ref11_Get N p k = pool_Get N p k := by
  unfold ref11_Get pool_Get
  rw [ref_used_eq, pool_used_eq]

theorem get_some {N : Nat} {p : List Sl} {L : List Int} (h : Bal p L) (hs : ∀ s ∈ p, SmallN (nodeS s)) (k : Int) : ∃ n e, pool_Get N p k = some (n, e) ∧ SmallN n := by
  cases hu : usedB p k with
  | true => exact ⟨_, _, pool_Get_used h hu, hs _ (rd_mem (used_nn hu) (used_lt hu))⟩
  | false => exact ⟨_, _, pool_Get_no hu, smallN0⟩

theorem matches_p3 {p : List Sl} {R : List Int} {m : Nat} (h : HInv p R m) (hm : m ≤ 100) (b0 : Int) (b1 : Bool) (b2 k : Int) : law11_PoolMatchesReference_p3 NN b0 b1 b2 k p R = some (.inr ((b0, (b1, ((), b2))), ((p, R), ()))) := by
  have hpl := h.pl
  have hak := h.ak
  have hNN : NN = 2000000 := rfl
  obtain ⟨n, e, g1, g2⟩ := get_some (N := NN) h.bal h.small k
  unfold law11_PoolMatchesReference_p3
  rw [get_same, g1, pool_Hold_eq (by omega), ref_Hold_eq (by omega)]
  simp only [sameNode_refl (N := NN) (by decide) g2, eqi_self, Bool.not_true, cond_false]
  have hsame : ref11_Same NN (if usedB p k = true then (holdP p k, (0 : Int)) else (p, 110)).1 (if usedB p k = true then (holdP p k, (0 : Int)) else (p, 110)).1 = some true := by
    split
    · rename_i hu
      have := hold_small h hm hu
      exact same_refl (by decide) (by have := this.pl; simp only; omega) this.small
    · exact same_refl (by decide) (by simp only; omega) h.small
  rw [hsame]
  simp only [Bool.not_true, cond_false]
  obtain ⟨out, o1, o2, o3⟩ := reach_same (N := NN) (by decide) (p := p) (R := [k, b2]) (by omega) (by omega) (fun s hs => by have := h.kk s hs; omega) (by simp)
  have hol := nodup_le (a := out) (b := uids p) (o3.1.imp (fun h => by omega)) (fun y hy => mem_uids.2 ((o3.2 y).1 hy).used)
  have hll : liveN p ≤ p.length := List.countP_le_length
  rw [len_uids] at hol
  simp only [o1, o2, ints_refl (N := NN) (by decide) (by omega : out.length < 1000000), Bool.not_true]
  unfold law11_PoolMatchesReference_p4
  rfl

theorem matches_l0 {p : List Sl} {R : List Int} {m : Nat} (h : HInv p R m) (hm : m ≤ 100) (b0 : Int) (b1 : Bool) : ∀ (k n : Nat) (i : Int), i + k = (p.length : Int) + 1 → -1 ≤ i → k < n →
    law11_PoolMatchesReference_l0 NN n b0 b1 i p R = some (.inr ((b1, ()), ((p, R), ())))
  | _, 0, _, _, _, h => absurd h (Nat.not_lt_zero _)
  | 0, n + 1, i, e, _, _ => by
    rw [law11_PoolMatchesReference_l0_succ]
    simp only [law11_PoolMatchesReference_l0_step]
    rw [bif_f (by simp; omega)]
  | k + 1, n + 1, i, e, hi, hn => by
    have hpl := h.pl
    have ih := matches_l0 h hm b0 b1 k n (i + 1) (by omega) (by omega) (by omega)
    rw [law11_PoolMatchesReference_l0_succ]
    simp only [law11_PoolMatchesReference_l0_step]
    rw [bif_t (by simp; omega), matches_p3 h hm, matches_p3 h hm]
    simp only [law11_PoolMatchesReference_p2]
    rw [w64 (by omega) (by omega), ih]
    cases decide (i < 0) <;> rfl

theorem matches_l1 {p : List Sl} {R : List Int} {m : Nat} (h : HInv p R m) (hm : m ≤ 100) (b0 : Bool) : ∀ (k n i : Nat), i + k = R.length → k < n →
    law11_PoolMatchesReference_l1 NN n b0 (i : Int) p R = some (.inr (b0, ()))
  | _, 0, _, _, h => absurd h (Nat.not_lt_zero _)
  | 0, n + 1, i, e, _ => by
    rw [law11_PoolMatchesReference_l1_succ]
    simp only [law11_PoolMatchesReference_l1_step]
    rw [bif_f (by simp; omega)]
  | k + 1, n + 1, i, e, hn => by
    have hpl := h.pl
    have hrl := h.rl
    have hak := h.ak
    have hNN : NN = 2000000 := rfl
    have hi : i < R.length := by omega
    have hrd : rdL R (i : Int) 0 = R[i] := by simp [rdL, hi]
    have hb := bal_out h.bal hi
    have hlen : (R.take i ++ R.drop (i + 1)).length ≤ R.length := by rw [List.length_append, List.length_take, List.length_drop]; omega
    obtain ⟨q, q1, q2, q3⟩ := pool_Drop_ok (N := NN) (by decide) hb (by omega) (by omega)
    obtain ⟨r, r1, r2, r3⟩ := ref_Drop_ok (N := NN) (by decide) hb (by omega) (by omega)
    have hqr : q = r := bal_unique q2 r2 q3 r3
    subst hqr
    have hq := h.drop q2 q3 (by omega)
    have hqpl := hq.pl
    have ih := matches_l1 h hm b0 k n (i + 1) (by omega) (by omega)
    have ei : ((i + 1 : Nat) : Int) = (i : Int) + 1 := by omega
    rw [ei] at ih
    rw [law11_PoolMatchesReference_l1_succ]
    simp only [law11_PoolMatchesReference_l1_step]
    rw [bif_t (by simp; omega), gd_t (inB_t (by omega) (by omega)), hrd, q1]
    simp only
    rw [gd_t (inB_t (by omega) (by omega)), r1]
    simp only [same_refl (N := NN) (by decide) (by omega : q.length < 1000000) hq.small, eqi_self, Bool.not_true, cond_false]
    rw [w64 (by omega) (by omega), ih]

theorem plainMatches (l : List V_ref11_Raw) (x : V_ref11_Raw) (id : Int) (hl : okT (.list T_ref11_Raw) l) (hx : okT T_ref11_Raw x) (hid : (Lit.int .i8 id).wf = true) : law11_PoolMatchesReference NN l x id = some true := by
  have hNN : NN = 2000000 := rfl
  obtain ⟨p, R, e1, h⟩ := play_ok hl
  have hpl := h.pl
  have hrl := h.rl
  obtain ⟨x0, x1⟩ := bytes_raw hx
  obtain ⟨n, n1, n2, n3, n4⟩ := node_ok (N := NN) (by decide) x0 x1 (roots := R) (by omega)
  obtain ⟨ha, hb⟩ := add_small h (by omega) (all_used_iff.2 fun k hk => h.bal.mem k (n3 k hk)) n2 n4
  have hapl := ha.pl
  unfold law11_PoolMatchesReference law11_add
  rw [sanity_ok, e1]
  simp only [n1, pool_Add_eq (N := NN) (by decide) (by omega : p.length ≤ 50000) (by omega : n.2.2.1.length < 1000000), ref_Add_eq (N := NN) (by decide) (by omega : p.length ≤ 50000) (by omega : n.2.2.1.length < 1000000), hb]
  unfold law11_same
  simp only [same_refl (N := NN) (by decide) (by omega : (addP p n).length < 1000000) ha.small, eqi_self, cond_true, Bool.not_true, cond_false, pool_Live_eq (N := NN) (by decide) (by omega : p.length ≤ 100000), ref_Live_eq (N := NN) (by decide) (by omega : p.length ≤ 100000)]
  rw [matches_l0 h (by omega) id true (p.length + 2) NN (-1) (by omega) (by omega) (by omega)]
  simp only
  have g := matches_l1 h (by omega) true R.length NN 0 (by omega) (by omega)
  have g' : law11_PoolMatchesReference_l1 NN NN true (0 : Int) p R = _ := g
  rw [g']

end Ds
